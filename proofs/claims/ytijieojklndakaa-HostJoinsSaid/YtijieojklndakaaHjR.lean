/- Said of HostJoins: for every argument that the row lets in, the law's call comes to 'true' and leaves all that was there as it was. -/
import Derived.Test.YtijieojklndakaaRows
import Derived.Test.YtijieojklndakaaHjG
import Derived.Test.YtijieojklndakaaHlI
namespace Go.Proofs.Ytijieojklndakaa.law6
open Go Go.ChangeShapes Go.WideShapes Go.ChangeAt Go.RowKit Go.Ns Go.ChangeMaps

theorem own : ownKnob Try.prog.godebug = none := by kernel_rfl

theorem wfI {k : IntKind} {n : Int} (h : (Lit.int k n).wf = true) : k.min ≤ n ∧ n ≤ k.max := by
  unfold Lit.wf at h
  simp only [Bool.and_eq_true, decide_eq_true_eq] at h
  exact h

theorem start (a0 : ByteArray) (a1 : Int) (a2 : Int) (a3 : Int) (h0 : a0.size ≤ maxLen) (h1 : (Lit.int .i64 a1).wf = true) (h2 : (Lit.int .i64 a2).wf = true) (h3 : (Lit.int .i64 a3).wf = true) : StS [.str a0, .int .i64 a1, .int .i64 a2, .int .i64 a3] [] 0 0 s0.q.E s0.q.st ⟨σ0 [.str a0, .int .i64 a1, .int .i64 a2, .int .i64 a3], E0, []⟩ := by
  refine ⟨⟨rfl, ?_, ?_⟩, ?_, ?_, .nil⟩
  · intro i d v hd hv
    match i with
    | 0 => simp [s0] at hd hv; subst hd hv; exact ⟨a0, rfl, h0⟩
    | 1 => simp [s0] at hd hv; subst hd hv; exact ⟨.i64, a1, rfl, (wfI h1).1, (wfI h1).2⟩
    | 2 => simp [s0] at hd hv; subst hd hv; exact ⟨.i64, a2, rfl, (wfI h2).1, (wfI h2).2⟩
    | 3 => simp [s0] at hd hv; subst hd hv; exact ⟨.i64, a3, rfl, (wfI h3).1, (wfI h3).2⟩
    | i + 4 => simp at hv
  · intro i lo hi f v hd hv
    match i with
    | 0 => simp [s0] at hd
    | 1 => simp [s0] at hd
    | 2 => simp [s0] at hd
    | 3 => simp [s0] at hd
    | i + 4 => simp at hv
  · intro t
    have sy : ∀ (k : IntKind) (i : Nat) (x : Int), ([.str a0, .int .i64 a1, .int .i64 a2, .int .i64 a3] : List V)[i]? = some (.int k x) → Sb [.str a0, .int .i64 a1, .int .i64 a2, .int .i64 a3] [] (.int k (encI i 0)) (.int k x) := by
      intro k i x hi
      have := Sb.sym (θ := [.str a0, .int .i64 a1, .int .i64 a2, .int .i64 a3]) (ι := []) k (encI i 0) i 0 k x (symI_enc (by decide) (by decide)) hi
      simpa using this
    match t with
    | 0 => exact .opq 0 _ rfl rfl
    | 1 => exact sy .i64 1 a1 rfl
    | 2 => exact sy .i64 2 a2 rfl
    | 3 => exact sy .i64 3 a3 rfl
    | t + 4 => exact .undef _
  · refine ⟨rfl, fun i j id q => by simp at q, fun i id q => by simp at q, fun i id o q => by simp at q, fun i id q => by simp at q, Nat.le_refl _, fun i v hv => ?_⟩
    match i with
    | 0 => simp at hv; subst hv; rfl
    | 1 => simp at hv; subst hv; rfl
    | 2 => simp at hv; subst hv; rfl
    | 3 => simp at hv; subst hv; rfl
    | i + 4 => simp at hv

theorem law (a0 : ByteArray) (a1 : Int) (a2 : Int) (a3 : Int) (h0 : a0.size ≤ maxLen) (h1 : (Lit.int .i64 a1).wf = true) (h2 : (Lit.int .i64 a2).wf = true) (h3 : (Lit.int .i64 a3).wf = true) : NCall Try.prog 0 6 [.str a0, .int .i64 a1, .int .i64 a2, .int .i64 a3] E0 fun r _ => r = .ret (.bool true) :=
  law_ok (c := body) (r := 8) (q := s0.q) Try.func6 rfl rfl (by show 4 ≤ 240; decide) g0 (start a0 a1 a2 a3 h0 h1 h2 h3)

theorem walk (a0 : ByteArray) (a1 : Int) (a2 : Int) (a3 : Int) (w : World) (h0 : a0.size ≤ maxLen) (h1 : (Lit.int .i64 a1).wf = true) (h2 : (Lit.int .i64 a2).wf = true) (h3 : (Lit.int .i64 a3).wf = true) : Calls Try.prog 6 #[.string a0, .int .i64 a1, .int .i64 a2, .int .i64 a3] w fun e w' => e = .returned (.bool true) ∧ w.keptBut w' (fun _ => False) :=
  said_calls (law a0 a1 a2 a3 h0 h1 h2 h3) (.cons _ _ _ _ (.str a0) (.cons _ _ _ _ (.int _ _) (.cons _ _ _ _ (.int _ _) (.cons _ _ _ _ (.int _ _) .nil))))

set_option maxRecDepth 100000 in
theorem lifted (os : Os) (started : os.Started) (H : Type) (enc : TypeId × Value → H) :
    ReturnsInHanded {} Try.checked os 6 .any (Rows.hostJoinsSpec.pre6 enc Try.prog Try.f6 Rows.hostJoinsRow.domain false) (Rows.hostJoinsSpec.post enc Try.prog Try.f6 false true false false) := by
  refine returnsInHanded_of_change (C := Try.checked) own started (by kernel_rfl) Try.func6
    (ChangeSpec.witness6 (enc := enc) (C := Try.checked) false ⟨#[], #[.string ⟨#[]⟩, .int .i64 0, .int .i64 0, .int .i64 0], []⟩ 8 (by kernel_rfl) (by kernel_rfl) (by kernel_rfl) (by kernel_rfl)) ?_
  intro W base args ds gs before hval0 hW hcnd _
  have hval : ∀ (j : Nat) t v, Try.f6.params[j]? = some t → args[j]? = some v → Value.okWide Try.prog W .any base t v := hval0
  have hW' := hW
  obtain ⟨p, q, hA0, hV, rfl, hfz, hnd⟩ := hW
  have hA : DataW.TrodAll enc Try.prog W 0 (fun _ => true) true Try.f6.params.toList args.toList ds p := hA0
  rw [Try.params6] at hA hval
  obtain ⟨v0, vs0, d0, ds0, p0, q0, hargs, rfl, rfl, h0, r0⟩ := trodAll_cons hA
  obtain ⟨v1, vs1, d1, ds1, p1, q1, rfl, rfl, rfl, h1, r1⟩ := trodAll_cons r0
  obtain ⟨v2, vs2, d2, ds2, p2, q2, rfl, rfl, rfl, h2, r2⟩ := trodAll_cons r1
  obtain ⟨v3, vs3, d3, ds3, p3, q3, rfl, rfl, rfl, h3, r3⟩ := trodAll_cons r2
  obtain ⟨rfl, rfl, rfl⟩ := trodAll_nil r3
  obtain rfl : args = #[v0, v1, v2, v3] := by cases args; simp_all
  obtain ⟨rfl, rfl⟩ := trodVars_none hV
  obtain ⟨a0, rfl, rfl, rfl, w0⟩ := open_string Try.underlying9 (hval 0 9 v0 rfl rfl) h0
  obtain ⟨a1, rfl, rfl, rfl, w1⟩ := open_int Try.underlying3 (hval 1 3 v1 rfl rfl) h1
  obtain ⟨a2, rfl, rfl, rfl, w2⟩ := open_int Try.underlying3 (hval 2 3 v2 rfl rfl) h2
  obtain ⟨a3, rfl, rfl, rfl, w3⟩ := open_int Try.underlying3 (hval 3 3 v3 rfl rfl) h3
  clear hA0 hval0
  simp only [List.append_nil] at hW'
  refine (walk a0 a1 a2 a3 W w0 w1 w2 w3).mono fun e W' ⟨he, hg⟩ => ?_
  subst he
  exact ⟨_, rfl, post_kept (pa := []) (pv := []) hW' (fun _ _ _ => (trodAll_cons_mk (shut_bool Try.underlying4 _) trodAll_mk0)) (fun sp _ => (trodAll_cons_mk (shut_string Try.underlying9 w0) (trodAll_cons_mk (shut_int Try.underlying3 w1) (trodAll_cons_mk (shut_int Try.underlying3 w2) (trodAll_cons_mk (shut_int Try.underlying3 w3) trodAll_mk0))))) (fun _ _ => rfl) rfl
    (World.keptBut_mono (fun _ f => f.elim) hg)⟩

theorem over : Rows.hostJoinsRow.holds Try.pinned (OpenSpec.ofChange Rows.hostJoinsSpec) :=
  OpenClaim.holds_of_wide 6 Try.f6 rfl rfl rfl rfl rfl rfl rfl ⟨rfl, rfl, rfl, rfl, rfl⟩ rfl rfl rfl rfl rfl (by kernel_rfl) Try.func6 (by kernel_rfl)
    (of_decide_eq_true (by kernel_rfl)) (by unfold Func.isWrapper; first | (rw [if_pos (by decide +kernel)]; kernel_rfl) | (rw [if_neg (by decide +kernel)]; exact ⟨rfl, rfl⟩))
    (fun os started H enc _ => lifted os started H enc)

theorem proved : Rows.HostJoinsSaid := over
end Go.Proofs.Ytijieojklndakaa.law6
