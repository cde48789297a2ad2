/- Said of HostInputs: for every string and all three numbers that the row lets in, the law's call comes to 'true' and leaves all that was there as it was. -/
import Derived.Test.YtijieojklndakaaRows
import Derived.Test.YtijieojklndakaaHiG
import Derived.WalkKit
import Derived.ProofKit
import Derived.ChangeMaps5
namespace Go.Proofs.Ytijieojklndakaa.law3
open Go.ChangeShapes Go.WideShapes Go.ChangeAt Go.RowKit Go.Ns Go.ChangeMaps

theorem own : ownKnob Try.prog.godebug = none := by kernel_rfl

theorem wf64 {n : Int} (h : (Lit.int .i64 n).wf = true) : -9223372036854775808 ≤ n ∧ n ≤ 9223372036854775807 := by
  have q : IntKind.i64.min ≤ n ∧ n ≤ IntKind.i64.max := by
    unfold Lit.wf at h
    simp only [Bool.and_eq_true, decide_eq_true_eq] at h
    exact h
  exact q

theorem start (s : ByteArray) (n f g : Int) (hs : s.size ≤ maxLen) (h1 : (Lit.int .i64 n).wf = true) (h2 : (Lit.int .i64 f).wf = true) (h3 : (Lit.int .i64 g).wf = true) :
    StS [.str s, .int .i64 n, .int .i64 f, .int .i64 g] [] 0 0 s0.q.E s0.q.st ⟨σ0 [.str s, .int .i64 n, .int .i64 f, .int .i64 g], E0, []⟩ := by
  refine ⟨⟨rfl, ?_⟩, ?_, ?_, .nil⟩
  · intro i d v hd hv
    match i with
    | 0 => simp [s0] at hd hv; subst hd hv; exact ⟨s, rfl, hs⟩
    | 1 => simp [s0] at hd hv; subst hd hv; exact ⟨.i64, n, rfl, (wf64 h1).1, (wf64 h1).2⟩
    | 2 => simp [s0] at hd hv; subst hd hv; exact ⟨.i64, f, rfl, (wf64 h2).1, (wf64 h2).2⟩
    | 3 => simp [s0] at hd hv; subst hd hv; exact ⟨.i64, g, rfl, (wf64 h3).1, (wf64 h3).2⟩
    | i + 4 => simp at hv
  · intro t
    have sy : ∀ (i : Nat) (x : Int), ([.str s, .int .i64 n, .int .i64 f, .int .i64 g] : List V)[i]? = some (.int .i64 x) → Sb [.str s, .int .i64 n, .int .i64 f, .int .i64 g] [] (.int .i64 (encI i 0)) (.int .i64 x) := by
      intro i x hi
      have := Sb.sym (θ := [.str s, .int .i64 n, .int .i64 f, .int .i64 g]) (ι := []) .i64 (encI i 0) i 0 .i64 x (symI_enc (by decide) (by decide)) hi
      simpa using this
    match t with
    | 0 => exact .opq 0 _ rfl rfl
    | 1 => exact sy 1 n rfl
    | 2 => exact sy 2 f rfl
    | 3 => exact sy 3 g rfl
    | t + 4 => exact .undef _
  · refine ⟨rfl, fun i j id q => by simp at q, fun i id q => by simp at q, fun i id o q => by simp at q, fun i id q => by simp at q, Nat.le_refl _, fun i v hv => ?_⟩
    match i with
    | 0 => simp at hv; subst hv; rfl
    | 1 => simp at hv; subst hv; rfl
    | 2 => simp at hv; subst hv; rfl
    | 3 => simp at hv; subst hv; rfl
    | i + 4 => simp at hv

theorem law (s : ByteArray) (n f g : Int) (hs : s.size ≤ maxLen) (h1 : (Lit.int .i64 n).wf = true) (h2 : (Lit.int .i64 f).wf = true) (h3 : (Lit.int .i64 g).wf = true) :
    NCall Try.prog 0 3 [.str s, .int .i64 n, .int .i64 f, .int .i64 g] E0 fun r _ => r = .ret (.bool true) :=
  law_ok (c := body) (r := 8) (q := s0.q) Try.func3 rfl rfl (by show 4 ≤ 119; decide) g0 (start s n f g hs h1 h2 h3)

theorem walk (s : ByteArray) (n f g : Int) (w : World) (hs : s.size ≤ maxLen) (h1 : (Lit.int .i64 n).wf = true) (h2 : (Lit.int .i64 f).wf = true) (h3 : (Lit.int .i64 g).wf = true) :
    Calls Try.prog 3 #[.string s, .int .i64 n, .int .i64 f, .int .i64 g] w fun e w' => e = .returned (.bool true) ∧ w.keptBut w' (fun _ => False) :=
  said_calls (law s n f g hs h1 h2 h3) (.cons _ _ _ _ (.str s) (.cons _ _ _ _ (.int _ _) (.cons _ _ _ _ (.int _ _) (.cons _ _ _ _ (.int _ _) .nil))))

set_option maxRecDepth 100000 in
theorem lifted (os : Os) (started : os.Started) (H : Type) (enc : TypeId × Value → H) :
    ReturnsInHanded {} Try.checked os 3 .any (Rows.hostInputsSpec.pre6 enc Try.prog Try.f3 Rows.hostInputsRow.domain false) (Rows.hostInputsSpec.post enc Try.prog Try.f3 false true false false) := by
  refine returnsInHanded_of_change (C := Try.checked) own started (by kernel_rfl) Try.func3
    (ChangeSpec.witness6 (enc := enc) (C := Try.checked) false ⟨#[], #[.string ⟨#[]⟩, .int .i64 0, .int .i64 0, .int .i64 0], []⟩ 8 (by kernel_rfl) (by kernel_rfl) (by kernel_rfl) (by kernel_rfl)) ?_
  intro W base args ds gs before hval0 hW hcnd _
  have hval : ∀ (j : Nat) t v, Try.f3.params[j]? = some t → args[j]? = some v → Value.okWide Try.prog W .any base t v := hval0
  have hW' := hW
  obtain ⟨p, q, hA0, hV, rfl, hfz, hnd⟩ := hW
  have hA : DataW.TrodAll enc Try.prog W 0 (fun _ => true) true Try.f3.params.toList args.toList ds p := hA0
  rw [Try.params3] at hA hval
  obtain ⟨v0, vs0, d0, ds0, p0, q0, hargs, rfl, rfl, h0, r0⟩ := trodAll_cons hA
  obtain ⟨v1, vs1, d1, ds1, p1, q1, rfl, rfl, rfl, h1, r1⟩ := trodAll_cons r0
  obtain ⟨v2, vs2, d2, ds2, p2, q2, rfl, rfl, rfl, h2, r2⟩ := trodAll_cons r1
  obtain ⟨v3, vs3, d3, ds3, p3, q3, rfl, rfl, rfl, h3, r3⟩ := trodAll_cons r2
  obtain ⟨rfl, rfl, rfl⟩ := trodAll_nil r3
  obtain rfl : args = #[v0, v1, v2, v3] := by cases args; simp_all
  obtain ⟨rfl, rfl⟩ := trodVars_none hV
  obtain ⟨s, rfl, rfl, rfl, w0⟩ := open_string Try.underlying9 (hval 0 9 v0 rfl rfl) h0
  obtain ⟨a1, rfl, rfl, rfl, w1⟩ := open_int Try.underlying3 (hval 1 3 v1 rfl rfl) h1
  obtain ⟨a2, rfl, rfl, rfl, w2⟩ := open_int Try.underlying3 (hval 2 3 v2 rfl rfl) h2
  obtain ⟨a3, rfl, rfl, rfl, w3⟩ := open_int Try.underlying3 (hval 3 3 v3 rfl rfl) h3
  clear hA0 hval0
  simp only [List.append_nil] at hW'
  refine (walk s a1 a2 a3 W w0 w1 w2 w3).mono fun e W' ⟨he, hg⟩ => ?_
  subst he
  exact ⟨_, rfl, post_kept (pa := []) (pv := []) hW' (fun _ _ _ => (trodAll_cons_mk (shut_bool Try.underlying4 _) trodAll_mk0)) (fun sp _ => (trodAll_cons_mk (shut_string Try.underlying9 w0) (trodAll_cons_mk (shut_int Try.underlying3 w1) (trodAll_cons_mk (shut_int Try.underlying3 w2) (trodAll_cons_mk (shut_int Try.underlying3 w3) trodAll_mk0))))) (fun _ _ => rfl) rfl
    (World.keptBut_mono (fun _ f => f.elim) hg)⟩

theorem over : Rows.hostInputsRow.holds Try.pinned (OpenSpec.ofChange Rows.hostInputsSpec) :=
  OpenClaim.holds_of_wide 3 Try.f3 rfl rfl rfl rfl rfl rfl rfl ⟨rfl, rfl, rfl, rfl, rfl⟩ rfl rfl rfl rfl rfl (by kernel_rfl) Try.func3 (by kernel_rfl)
    (of_decide_eq_true (by kernel_rfl)) (by unfold Func.isWrapper; first | (rw [if_pos (by decide +kernel)]; kernel_rfl) | (rw [if_neg (by decide +kernel)]; exact ⟨rfl, rfl⟩))
    (fun os started H enc _ => lifted os started H enc)

theorem proved : Rows.HostInputsSaid := over
end Go.Proofs.Ytijieojklndakaa.law3
