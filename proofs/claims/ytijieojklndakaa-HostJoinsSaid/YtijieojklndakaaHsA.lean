/- The host laws of layer 17: what is given by contract: the dice's seed, and what the document says of a few. -/
import Derived.Test.YtijieojklndakaaChecked
import Derived.Test.YtijieojklndakaaHsK
import Derived.KernelRfl
namespace Go.Proofs.Ytijieojklndakaa
open Go Go.Ns

theorem mixed : Try.prog.follows .mixedOrders = true := Try.checked.mixed

theorem strOk_ok {θ : List V} {ι : List Nat} {E : Env} (he : EnvOk θ E) {x x' : V} (hx : Sb θ ι x x') (h : strOk E x = true) : ∃ s, x' = .str s ∧ s.size ≤ 9223372036854775807 := by
  unfold strOk at h
  split at h
  · cases hx; exact ⟨_, rfl, by simpa using h⟩
  · split at h
    · rename_i m hm
      obtain ⟨s, rfl, hs⟩ := strU_ok he hx hm
      simp only [decide_eq_true_eq] at h
      exact ⟨s, rfl, Nat.le_trans hs h⟩
    · cases h

theorem u64_rng (n : Int) : 0 ≤ IntKind.u64.wrap n ∧ IntKind.u64.wrap n ≤ 18446744073709551615 := by
  have e : IntKind.u64.wrap n = n % 18446744073709551616 := by simp [IntKind.wrap, IntKind.bits, IntKind.signed]
  rw [e]; omega

theorem i64_in {n : Int} (h0 : 0 ≤ n) (h1 : n ≤ 9223372036854775807) : IntKind.i64.wrap n = n := by
  have e : n % (2 ^ IntKind.i64.bits : Int) = n := Int.emod_eq_of_lt h0 (by show n < 2 ^ 64; omega)
  unfold IntKind.wrap
  simp only [e]
  have q : ¬ (n ≥ (2 ^ (IntKind.i64.bits - 1) : Int)) := by
    show ¬ (n ≥ (2 ^ 63 : Int))
    omega
  simp [q]

structure SeedI (s : ByteArray) (H : Heap) (j : Nat) (t : S) : Prop where
  s0 : t.σ 0 = .str s
  s6 : t.σ 6 = .int .i64 s.size
  s7 : t.σ 7 = .int .i64 j
  s3 : ∃ x : Int, t.σ 3 = .int .u64 x ∧ 0 ≤ x ∧ x ≤ 18446744073709551615
  H : t.H = H
  D : t.D = []
  j : j ≤ s.size

/-- The loop's step: its index. -/
theorem seed_r6 {b N : Nat} {j : Int} {s : S} {Q : Ex → S → Prop} {ty ty2 : Nat} {p p2 : String} {a a2 : Array Edge} (hN : 17 < N) (hN2 : 7 < N)
    (h7 : s.σ 7 = .int .i64 j)
    (hq : Q .normal ⟨upd (upd s.σ (some 17) (.int .i64 (IntKind.i64.wrap (j + 1)))) (some 7) (.int .i64 (IntKind.i64.wrap (j + 1))), s.H, s.D⟩) :
    NWp Try.prog b N (.region 6 #[{ dst := some 17, op := .binOp .add 3 (.tmp 7) (.const (.int .i64 1)) 3, type := ty, pos := p, after := a, guard := none }, { dst := some 7, op := .move (.tmp 17), type := ty2, pos := p2, after := a2, guard := none }] false) Q s := by
  refine nwp_region (by simp [opsOk, hN, hN2]) ?_
  refine ⟨hN, ?_⟩
  show optK (binV Try.prog .add 3 (s.σ 7) (.int .i64 1)) _
  rw [h7]
  refine ⟨hN2, ?_⟩
  exact hq

theorem opsW_pure {P : Program} {base N : Nat} {ops : Array Oper} {K : S → Prop} {KP : V → S → Prop} {o : Oper} {rest : List Oper} {s : S} (v : V) (hd : dstOk N o.dst) (hg : o.guard = none)
    (hop : ∀ (K : V → Heap → Prop) (KD : FuncId → List V → Prop) (KP : V → Heap → Prop), K v s.H → opW P base o (ρV s.σ) s.H K KD KP) (h : opsW P base N ops K KP rest ⟨upd s.σ o.dst v, s.H, s.D⟩) : opsW P base N ops K KP (o :: rest) s := by
  simp only [opsW, hg, wantV]
  exact ⟨hd, hop _ _ _ h⟩

set_option maxRecDepth 8000 in
/-- The loop's step: the next word. -/
theorem seed_r5 {b N : Nat} {j : Nat} {x : Int} {str : ByteArray} {c : UInt8} {s : S} {Q : Ex → S → Prop} {t1 t2 t3 t4 t5 t6 t7 t8 : Nat} {p1 p2 p3 p4 p5 p6 p7 p8 : String} {a1 a2 a3 a4 a5 a6 a7 a8 : Array Edge} (hN : 16 < N)
    (h0 : s.σ 0 = .str str) (h3 : s.σ 3 = .int .u64 x) (h4 : s.σ 4 = .int .i64 j) (hg : str[j]? = some c)
    (hq : ∀ (y : Int) (σ' : Nat → V), 0 ≤ y → y ≤ 18446744073709551615 → σ' 3 = .int .u64 y → σ' 0 = s.σ 0 → σ' 6 = s.σ 6 → σ' 7 = s.σ 7 → Q .normal ⟨σ', s.H, s.D⟩) :
    NWp Try.prog b N (.region 5 #[{ dst := some 10, op := .move (.tmp 3), type := t1, pos := p1, after := a1, guard := none }, { dst := some 11, op := .move (.tmp 0), type := t2, pos := p2, after := a2, guard := none },
      { dst := some 12, op := .move (.tmp 4), type := t3, pos := p3, after := a3, guard := none }, { dst := some 13, op := .index 9 (.tmp 11) (.tmp 12), type := t4, pos := p4, after := a4, guard := none },
      { dst := some 14, op := .convert 5 45 (.tmp 13), type := t5, pos := p5, after := a5, guard := none }, { dst := some 15, op := .binOp .xor 45 (.tmp 10) (.tmp 14) 45, type := t6, pos := p6, after := a6, guard := none },
      { dst := some 16, op := .binOp .mul 45 (.tmp 15) (.const (.int .u64 1099511628211)) 45, type := t7, pos := p7, after := a7, guard := none }, { dst := some 3, op := .assign (.tmp 16), type := t8, pos := p8, after := a8, guard := none }] false) Q s := by
  have h5 : iknT Try.prog 5 = some .u8 := by kernel_rfl
  have h45 : iknT Try.prog 45 = some .u64 := by kernel_rfl
  have h9 : strT Try.prog 9 = true := by kernel_rfl
  have lt : ∀ d : Nat, d ≤ 16 → dstOk N (some d) := fun d hd => Nat.lt_of_le_of_lt hd hN
  refine nwp_region (by simp only [opsOk, List.all_cons, List.all_nil, Bool.and_true, Bool.and_eq_true, decide_eq_true_eq]; exact ⟨lt 10 (by decide), lt 11 (by decide), lt 12 (by decide), lt 13 (by decide), lt 14 (by decide), lt 15 (by decide), lt 16 (by decide), lt 3 (by decide)⟩) ?_
  refine opsW_pure (.int .u64 x) (lt 10 (by decide)) rfl (fun K _ _ h => by show K (s.σ 3) s.H; rw [h3]; exact h) ?_
  refine opsW_pure (.str str) (lt 11 (by decide)) rfl (fun K _ _ h => by show K (s.σ 0) s.H; rw [h0]; exact h) ?_
  refine opsW_pure (.int .i64 j) (lt 12 (by decide)) rfl (fun K _ _ h => by show K (s.σ 4) s.H; rw [h4]; exact h) ?_
  refine opsW_pure (.int .u8 c.toNat) (lt 13 (by decide)) rfl (fun K _ _ h => ?_) ?_
  · show optK (ixV Try.prog 9 (.str str) (.int .i64 j)) _
    have e1 : ixV Try.prog 9 (.str str) (.int .i64 j) = some (.int .u8 c.toNat) := by simp [ixV, h9, hg]
    rw [e1]; exact h
  refine opsW_pure (.int .u64 (IntKind.u64.wrap c.toNat)) (lt 14 (by decide)) rfl (fun K _ _ h => ?_) ?_
  · show cvW Try.prog b s.H 5 45 (.int .u8 c.toNat) _
    have e2 : cvV Try.prog 5 45 (.int .u8 c.toNat) = some (.int .u64 (IntKind.u64.wrap c.toNat)) := by simp only [cvV, h5, h45]
    unfold cvW; rw [e2]; exact h
  obtain ⟨z, hz⟩ : ∃ z, binV Try.prog .xor 45 (.int .u64 x) (.int .u64 (IntKind.u64.wrap c.toNat)) = some (.int .u64 z) := ⟨_, rfl⟩
  refine opsW_pure (.int .u64 z) (lt 15 (by decide)) rfl (fun K _ _ h => ?_) ?_
  · simp only [opW, ρV, upd, Nat.reduceEqDiff, if_false, if_true, hz, optK]
    exact h
  obtain ⟨y, hy, hy0, hy1⟩ : ∃ y, binV Try.prog .mul 45 (.int .u64 z) (.int .u64 1099511628211) = some (.int .u64 y) ∧ 0 ≤ y ∧ y ≤ 18446744073709551615 := by
    refine ⟨IntKind.u64.wrap (z * 1099511628211), ?_, u64_rng _⟩
    generalize (1099511628211 : Int) = w
    rfl
  refine opsW_pure (.int .u64 y) (lt 16 (by decide)) rfl (fun K _ _ h => ?_) ?_
  · simp only [opW, ρV, vconst, upd, Nat.reduceEqDiff, if_false, if_true, hy, optK]
    exact h
  refine opsW_pure (.int .u64 y) (lt 3 (by decide)) rfl (fun K _ _ h => h) ?_
  refine hq y _ hy0 hy1 ?_ ?_ ?_ ?_ <;> simp [upd]

set_option maxRecDepth 4000 in
theorem seed_call (s : ByteArray) (hs : s.size ≤ 2 ^ 63 - 1) (b : Nat) (H : Heap) : NCall Try.prog b 49 [.str s] H fun r H' => H' = H ∧ ∃ x : Int, r = .ret (.int .u64 x) ∧ 0 ≤ x ∧ x ≤ 18446744073709551615 := by
  refine ncall_body Try.func49 rfl (by show 1 ≤ 19; decide) ?_
  have h9 : strT Try.prog 9 = true := by kernel_rfl
  refine nwp_seq (nwp_region rfl ?_)
  simp only [opsW, dstOk, wantV, opW, thenQ, upd, ρV, vconst]
  refine ⟨by show 2 < 19; decide, nwp_seq (nwp_region rfl ?_)⟩
  simp only [opsW, dstOk, wantV, opW, thenQ, upd, ρV, vconst]
  refine ⟨by show 3 < 19; decide, nwp_seq ?_⟩
  refine nwp_seq (nwp_region rfl ?_)
  simp only [opsW, dstOk, wantV, opW, thenQ, upd, ρV, vconst, bltW, lnV, List.map, σ0, optK, h9]
  refine ⟨by show 5 < 19; decide, by show 6 < 19; decide, by show 7 < 19; decide, nwp_block ?_⟩
  refine nwp_loop (fun n t => ∃ j, n = s.size - j ∧ SeedI s H j t) (n := s.size) ⟨0, by simp, ⟨rfl, rfl, rfl, ⟨_, rfl, by decide, by decide⟩, rfl, rfl, Nat.zero_le _⟩⟩ ?_
  rintro n t ⟨j, rfl, I⟩
  obtain ⟨x, hx, hx0, hx1⟩ := I.s3
  refine nwp_seq (nwp_region rfl ?_)
  refine ⟨by show 8 < 19; decide, ?_⟩
  show optK (binV Try.prog .lss 3 (t.σ 7) (t.σ 6)) _
  have e0 : binV Try.prog .lss 3 (t.σ 7) (t.σ 6) = some (.bool (decide (j < s.size))) := by
    rw [I.s7, I.s6]; simp [binV, intV]
  rw [e0]
  refine nwp_seq ?_
  have hj := I.j
  by_cases hlt : j < s.size
  · refine nwp_cond (b := true) (by simp [ρV, upd, hlt]) (nwp_skip ?_)
    refine nwp_seq (nwp_block (nwp_seq (nwp_region rfl ?_)))
    refine ⟨by show 9 < 19; decide, by show 4 < 19; decide, ?_⟩
    have hget : s[j]? = some s[j] := by simp [hlt]
    refine seed_r5 (j := j) (x := x) (str := s) (c := s[j]) (by decide) (by simp [upd, I.s0]) (by simp [upd, hx]) (by simp [upd, ρV, I.s7]) hget ?_
    intro y σ' hy0 hy1 q3 q0 q6 q7
    refine seed_r6 (j := j) (by decide) (by decide) (by simpa [upd, I.s7] using q7) ?_
    refine ⟨s.size - (j + 1), by omega, j + 1, rfl, ?_⟩
    have hw : IntKind.i64.wrap ((j : Int) + 1) = ((j + 1 : Nat) : Int) := by rw [i64_in (by omega) (by omega)]; omega
    exact ⟨by simpa [upd, I.s0] using q0, by simpa [upd, I.s6] using q6, by simp [upd, hw], ⟨y, by simpa [upd] using q3, hy0, hy1⟩, I.H, I.D, by omega⟩
  · refine nwp_cond (b := false) (by simp [ρV, upd, hlt]) (nwp_exit ?_)
    refine nwp_seq (nwp_region rfl ?_)
    refine ⟨by show 18 < 19; decide, by show 2 < 19; decide, nwp_ret ?_⟩
    simp [bodyQ, resVs, resV, oneV, I.D, I.H, hx, upd, ρV]
    exact ⟨hx0, hx1⟩

theorem seed_ok : GivOk Try.prog 49 seedG := by
  intro E b args H K hk θ ι b' args' H' he hh ha
  cases ha with
  | nil => simp [seedG] at hk
  | cons v v' vs vs' h0 h1 =>
    cases h1 with
    | cons => simp [seedG] at hk
    | nil =>
      simp only [seedG, Bool.and_eq_true] at hk
      obtain ⟨hk0, hk⟩ := hk
      obtain ⟨s, rfl, hs⟩ := strOk_ok he h0 hk0
      refine (seed_call s (by omega) b' H').mono ?_
      rintro r H2 ⟨rfl, x, rfl, hx0, hx1⟩
      obtain ⟨f1, f2⟩ := fresh_ok (ι := ι) he (k := .u64) (lo := 0) (hi := 18446744073709551615) hx0 hx1
      simp only [freshI, Bool.and_eq_true] at hk
      exact ⟨_, _, ι, .ret _, H, Grow.int θ .u64 x, List.prefix_refl _, f1, hh.grow (Grow.int θ .u64 x), f2, hk.2⟩

theorem giv0_ok : ∀ f c, giv0 f = some c → GivOk Try.prog f c := by
  intro f c h
  unfold giv0 at h
  split at h
  · rename_i q; subst q; cases h; exact seed_ok
  · cases h
end Go.Proofs.Ytijieojklndakaa
