/- An argument of type api.Input, opened and shut: three integers. -/
import Derived.Test.YtijieojklndakaaHsB
import Derived.WalkKit
import Derived.ProofKit
import Derived.ChangeMaps5
namespace Go.Proofs.Ytijieojklndakaa
open Go Go.ChangeShapes Go.WideShapes Go.ChangeAt Go.RowKit Go.ChangeMaps

set_option maxRecDepth 100000 in
theorem open_input {H : Type} {enc : TypeId × Value → H} {w : World} {base : Nat} {sp : Nat → Bool} {held : Bool} {r : Reach} {b0 : Nat} {v : Value} {d : DataW H} {ps : List MemPlace}
    (hval : Value.okWide Try.prog w r b0 29 v) (hd : DataW.Trod enc Try.prog w base sp held 29 v d ps) :
    ∃ x y b : Int, v = .agg #[.int .i8 x, .int .i8 y, .int .u8 b] ∧ d = .agg [.lit (.int .i8 x), .lit (.int .i8 y), .lit (.int .u8 b)] ∧ ps = [] ∧ (Lit.int .i8 x).wf = true ∧ (Lit.int .i8 y).wf = true ∧ (Lit.int .u8 b).wf = true := by
  have hc29 : Try.prog.cellsOf 29 = 3 := by kernel_rfl
  have hc27 : Try.prog.cellsOf 27 = 1 := by kernel_rfl
  have hc5 : Try.prog.cellsOf 5 = 1 := by kernel_rfl
  obtain ⟨cs, rfl, hcs⟩ := okWide_struct Try.underlying29 hval
  obtain ⟨fuel, hf⟩ := hd
  obtain ⟨xs, n, _, hx, hl, hlen, hg⟩ := DataW.trod_struct Try.underlying29 hf
  rw [hc29] at hcs
  match xs, hlen with
  | [y0, y1, y2], _ =>
    have g0 := hg 0 _ rfl
    have g1 := hg 1 _ rfl
    have g2 := hg 2 _ rfl
    obtain ⟨cl⟩ := cs
    match cl, hcs with
    | [c0, c1, c2], _ =>
      simp [Value.cells, hc27, hc5] at g0 g1 g2
      obtain ⟨x, e0, rfl, w0⟩ := DataW.trod_int Try.underlying27 g0
      obtain ⟨y, e1, rfl, w1⟩ := DataW.trod_int Try.underlying27 g1
      obtain ⟨b, e2, rfl, w2⟩ := DataW.trod_int Try.underlying5 g2
      simp at e0 e1 e2
      subst e0 e1 e2
      simp at hx
      exact ⟨x, y, b, rfl, hx.1, hx.2, w0, w1, w2⟩

set_option maxRecDepth 100000 in
theorem shut_input {H : Type} {enc : TypeId × Value → H} {w : World} {base : Nat} {sp : Nat → Bool} {held : Bool} {x y b : Int} (w0 : (Lit.int .i8 x).wf = true) (w1 : (Lit.int .i8 y).wf = true) (w2 : (Lit.int .u8 b).wf = true) :
    DataW.Trod enc Try.prog w base sp held 29 (.agg #[.int .i8 x, .int .i8 y, .int .u8 b]) (.agg [.lit (.int .i8 x), .lit (.int .i8 y), .lit (.int .u8 b)]) [] := by
  have hc29 : Try.prog.cellsOf 29 = 3 := by kernel_rfl
  have hc27 : Try.prog.cellsOf 27 = 1 := by kernel_rfl
  have hc5 : Try.prog.cellsOf 5 = 1 := by kernel_rfl
  exact ⟨2, by simp [DataW.trod, Value.cells, Try.underlying29, Try.underlying27, Try.underlying5, hc29, hc27, hc5, w0, w1, w2]⟩
end Go.Proofs.Ytijieojklndakaa
