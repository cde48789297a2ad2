/- Said of HostLate: for every argument that the row lets in, the law's call comes to 'true' and leaves all that was there as it was. -/
import Derived.Test.YtijieojklndakaaRows
import Derived.Test.YtijieojklndakaaHlG
import Derived.Test.YtijieojklndakaaHlI
namespace Go.Proofs.Ytijieojklndakaa.law4
open Go Go.ChangeShapes Go.WideShapes Go.ChangeAt Go.RowKit Go.Ns Go.ChangeMaps

theorem own : ownKnob Try.prog.godebug = none := by kernel_rfl

theorem wfI {k : IntKind} {n : Int} (h : (Lit.int k n).wf = true) : k.min ≤ n ∧ n ≤ k.max := by
  unfold Lit.wf at h
  simp only [Bool.and_eq_true, decide_eq_true_eq] at h
  exact h

theorem start (a0 : ByteArray) (x1 y1 b1 : Int) (x2 y2 b2 : Int) (h0 : a0.size ≤ maxLen) (hx1 : (Lit.int .i8 x1).wf = true) (hy1 : (Lit.int .i8 y1).wf = true) (hb1 : (Lit.int .u8 b1).wf = true) (hx2 : (Lit.int .i8 x2).wf = true) (hy2 : (Lit.int .i8 y2).wf = true) (hb2 : (Lit.int .u8 b2).wf = true) : StS [.str a0, .int .i8 x1, .int .i8 y1, .int .u8 b1, .int .i8 x2, .int .i8 y2, .int .u8 b2] [] 0 0 s0.q.E s0.q.st ⟨σ0 [.str a0, .agg [.int .i8 x1, .int .i8 y1, .int .u8 b1], .agg [.int .i8 x2, .int .i8 y2, .int .u8 b2]], E0, []⟩ := by
  refine ⟨⟨rfl, ?_⟩, ?_, ?_, .nil⟩
  · intro i d v hd hv
    match i with
    | 0 => simp [s0] at hd hv; subst hd hv; exact ⟨a0, rfl, h0⟩
    | 1 => simp [s0] at hd hv; subst hd hv; exact ⟨.i8, x1, rfl, (wfI hx1).1, (wfI hx1).2⟩
    | 2 => simp [s0] at hd hv; subst hd hv; exact ⟨.i8, y1, rfl, (wfI hy1).1, (wfI hy1).2⟩
    | 3 => simp [s0] at hd hv; subst hd hv; exact ⟨.u8, b1, rfl, (wfI hb1).1, (wfI hb1).2⟩
    | 4 => simp [s0] at hd hv; subst hd hv; exact ⟨.i8, x2, rfl, (wfI hx2).1, (wfI hx2).2⟩
    | 5 => simp [s0] at hd hv; subst hd hv; exact ⟨.i8, y2, rfl, (wfI hy2).1, (wfI hy2).2⟩
    | 6 => simp [s0] at hd hv; subst hd hv; exact ⟨.u8, b2, rfl, (wfI hb2).1, (wfI hb2).2⟩
    | i + 7 => simp at hv
  · intro t
    have sy : ∀ (k : IntKind) (i : Nat) (x : Int), ([.str a0, .int .i8 x1, .int .i8 y1, .int .u8 b1, .int .i8 x2, .int .i8 y2, .int .u8 b2] : List V)[i]? = some (.int k x) → Sb [.str a0, .int .i8 x1, .int .i8 y1, .int .u8 b1, .int .i8 x2, .int .i8 y2, .int .u8 b2] [] (.int k (encI i 0)) (.int k x) := by
      intro k i x hi
      have := Sb.sym (θ := [.str a0, .int .i8 x1, .int .i8 y1, .int .u8 b1, .int .i8 x2, .int .i8 y2, .int .u8 b2]) (ι := []) k (encI i 0) i 0 k x (symI_enc (by decide) (by decide)) hi
      simpa using this
    match t with
    | 0 => exact .opq 0 _ rfl rfl
    | 1 => exact .agg _ _ (.cons _ _ _ _ (sy .i8 1 x1 rfl) (.cons _ _ _ _ (sy .i8 2 y1 rfl) (.cons _ _ _ _ (sy .u8 3 b1 rfl) .nil)))
    | 2 => exact .agg _ _ (.cons _ _ _ _ (sy .i8 4 x2 rfl) (.cons _ _ _ _ (sy .i8 5 y2 rfl) (.cons _ _ _ _ (sy .u8 6 b2 rfl) .nil)))
    | t + 3 => exact .undef _
  · refine ⟨rfl, fun i j id q => by simp at q, fun i id q => by simp at q, fun i id o q => by simp at q, fun i id q => by simp at q, Nat.le_refl _, fun i v hv => ?_⟩
    match i with
    | 0 => simp at hv; subst hv; rfl
    | 1 => simp at hv; subst hv; rfl
    | 2 => simp at hv; subst hv; rfl
    | 3 => simp at hv; subst hv; rfl
    | 4 => simp at hv; subst hv; rfl
    | 5 => simp at hv; subst hv; rfl
    | 6 => simp at hv; subst hv; rfl
    | i + 7 => simp at hv

theorem law (a0 : ByteArray) (x1 y1 b1 : Int) (x2 y2 b2 : Int) (h0 : a0.size ≤ maxLen) (hx1 : (Lit.int .i8 x1).wf = true) (hy1 : (Lit.int .i8 y1).wf = true) (hb1 : (Lit.int .u8 b1).wf = true) (hx2 : (Lit.int .i8 x2).wf = true) (hy2 : (Lit.int .i8 y2).wf = true) (hb2 : (Lit.int .u8 b2).wf = true) : NCall Try.prog 0 4 [.str a0, .agg [.int .i8 x1, .int .i8 y1, .int .u8 b1], .agg [.int .i8 x2, .int .i8 y2, .int .u8 b2]] E0 fun r _ => r = .ret (.bool true) :=
  law_ok (c := body) (r := 6) (q := s0.q) Try.func4 rfl rfl (by show 3 ≤ 164; decide) g0 (start a0 x1 y1 b1 x2 y2 b2 h0 hx1 hy1 hb1 hx2 hy2 hb2)

theorem walk (a0 : ByteArray) (x1 y1 b1 : Int) (x2 y2 b2 : Int) (w : World) (h0 : a0.size ≤ maxLen) (hx1 : (Lit.int .i8 x1).wf = true) (hy1 : (Lit.int .i8 y1).wf = true) (hb1 : (Lit.int .u8 b1).wf = true) (hx2 : (Lit.int .i8 x2).wf = true) (hy2 : (Lit.int .i8 y2).wf = true) (hb2 : (Lit.int .u8 b2).wf = true) : Calls Try.prog 4 #[.string a0, .agg #[.int .i8 x1, .int .i8 y1, .int .u8 b1], .agg #[.int .i8 x2, .int .i8 y2, .int .u8 b2]] w fun e w' => e = .returned (.bool true) ∧ w.keptBut w' (fun _ => False) :=
  said_calls (law a0 x1 y1 b1 x2 y2 b2 h0 hx1 hy1 hb1 hx2 hy2 hb2) (.cons _ _ _ _ (.str a0) (.cons _ _ _ _ (.agg _ [_, _, _] rfl (.cons _ _ _ _ (.int _ _) (.cons _ _ _ _ (.int _ _) (.cons _ _ _ _ (.int _ _) .nil)))) (.cons _ _ _ _ (.agg _ [_, _, _] rfl (.cons _ _ _ _ (.int _ _) (.cons _ _ _ _ (.int _ _) (.cons _ _ _ _ (.int _ _) .nil)))) .nil)))

set_option maxRecDepth 100000 in
theorem lifted (os : Os) (started : os.Started) (H : Type) (enc : TypeId × Value → H) :
    ReturnsInHanded {} Try.checked os 4 .any (Rows.hostLateSpec.pre6 enc Try.prog Try.f4 Rows.hostLateRow.domain false) (Rows.hostLateSpec.post enc Try.prog Try.f4 false true false false) := by
  refine returnsInHanded_of_change (C := Try.checked) own started (by kernel_rfl) Try.func4
    (ChangeSpec.witness6 (enc := enc) (C := Try.checked) false ⟨#[], #[.string ⟨#[]⟩, .agg #[.int .i8 0, .int .i8 0, .int .u8 0], .agg #[.int .i8 0, .int .i8 0, .int .u8 0]], []⟩ 8 (by kernel_rfl) (by kernel_rfl) (by kernel_rfl) (by kernel_rfl)) ?_
  intro W base args ds gs before hval0 hW hcnd _
  have hval : ∀ (j : Nat) t v, Try.f4.params[j]? = some t → args[j]? = some v → Value.okWide Try.prog W .any base t v := hval0
  have hW' := hW
  obtain ⟨p, q, hA0, hV, rfl, hfz, hnd⟩ := hW
  have hA : DataW.TrodAll enc Try.prog W 0 (fun _ => true) true Try.f4.params.toList args.toList ds p := hA0
  rw [Try.params4] at hA hval
  obtain ⟨v0, vs0, d0, ds0, p0, q0, hargs, rfl, rfl, h0, r0⟩ := trodAll_cons hA
  obtain ⟨v1, vs1, d1, ds1, p1, q1, rfl, rfl, rfl, h1, r1⟩ := trodAll_cons r0
  obtain ⟨v2, vs2, d2, ds2, p2, q2, rfl, rfl, rfl, h2, r2⟩ := trodAll_cons r1
  obtain ⟨rfl, rfl, rfl⟩ := trodAll_nil r2
  obtain rfl : args = #[v0, v1, v2] := by cases args; simp_all
  obtain ⟨rfl, rfl⟩ := trodVars_none hV
  obtain ⟨a0, rfl, rfl, rfl, w0⟩ := open_string Try.underlying9 (hval 0 9 v0 rfl rfl) h0
  obtain ⟨x1, y1, b1, rfl, rfl, rfl, wx1, wy1, wb1⟩ := open_input (hval 1 29 v1 rfl rfl) h1
  obtain ⟨x2, y2, b2, rfl, rfl, rfl, wx2, wy2, wb2⟩ := open_input (hval 2 29 v2 rfl rfl) h2
  clear hA0 hval0
  simp only [List.append_nil] at hW'
  refine (walk a0 x1 y1 b1 x2 y2 b2 W w0 wx1 wy1 wb1 wx2 wy2 wb2).mono fun e W' ⟨he, hg⟩ => ?_
  subst he
  exact ⟨_, rfl, post_kept (pa := []) (pv := []) hW' (fun _ _ _ => (trodAll_cons_mk (shut_bool Try.underlying4 _) trodAll_mk0)) (fun sp _ => (trodAll_cons_mk (shut_string Try.underlying9 w0) (trodAll_cons_mk (shut_input wx1 wy1 wb1) (trodAll_cons_mk (shut_input wx2 wy2 wb2) trodAll_mk0)))) (fun _ _ => rfl) rfl
    (World.keptBut_mono (fun _ f => f.elim) hg)⟩

theorem over : Rows.hostLateRow.holds Try.pinned (OpenSpec.ofChange Rows.hostLateSpec) :=
  OpenClaim.holds_of_wide 4 Try.f4 rfl rfl rfl rfl rfl rfl rfl ⟨rfl, rfl, rfl, rfl, rfl⟩ rfl rfl rfl rfl rfl (by kernel_rfl) Try.func4 (by kernel_rfl)
    (of_decide_eq_true (by kernel_rfl)) (by unfold Func.isWrapper; first | (rw [if_pos (by decide +kernel)]; kernel_rfl) | (rw [if_neg (by decide +kernel)]; exact ⟨rfl, rfl⟩))
    (fun os started H enc _ => lifted os started H enc)

theorem proved : Rows.HostLateSaid := over
end Go.Proofs.Ytijieojklndakaa.law4
