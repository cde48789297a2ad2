/- The law HostOwn of layer 17: the seeds of the program and of the document are one: a string's word, letter by letter. -/
import Derived.Test.YtgjocnogcolfbaaGreatChecked
import Derived.Test.YtgjocnogcolfbaaGreatOwK
import Derived.KernelRfl
namespace Go.Proofs.YtgjocnogcolfbaaGreat
open Go Go.Ns

theorem mixed : Tryz.prog.follows .mixedOrders = true := Tryz.checked.mixed

theorem u64_rng (n : Int) : 0 ≤ IntKind.u64.wrap n ∧ IntKind.u64.wrap n ≤ 18446744073709551615 := by
  have e : IntKind.u64.wrap n = n % 18446744073709551616 := by simp [IntKind.wrap, IntKind.bits, IntKind.signed]
  rw [e]; omega

theorem i64_in {n : Int} (h0 : 0 ≤ n) (h1 : n ≤ 9223372036854775807) : IntKind.i64.wrap n = n := by
  have e : n % (2 ^ IntKind.i64.bits : Int) = n := Int.emod_eq_of_lt h0 (by show n < 2 ^ 64; omega)
  unfold IntKind.wrap
  simp only [e]
  have q : ¬ (n ≥ (2 ^ (IntKind.i64.bits - 1) : Int)) := by
    show ¬ (n ≥ (2 ^ 63 : Int))
    omega
  simp [q]

def stepR (x : Int) (c : UInt8) (y : Int) : Prop := ∃ z, intV .xor .u64 x (IntKind.u64.wrap (c.toNat : Int)) = some (.int .u64 z) ∧ y = IntKind.u64.wrap (z * 1099511628211)

theorem step_seed {s : ByteArray} {j : Nat} {c : UInt8} {y : Int} (hg : s[j]? = some c) (h : stepR (seedW s j) c y) : seedW s (j + 1) = y := by
  obtain ⟨z, h1, h2⟩ := h
  rw [h2]
  simp only [seedW, hg, Option.getD_some, h1]

theorem seedW_rng (s : ByteArray) : ∀ n, 0 ≤ seedW s n ∧ seedW s n ≤ 18446744073709551615
  | 0 => by simp only [seedW]; decide
  | n + 1 => by
    simp only [seedW]
    split
    · exact u64_rng _
    · decide

theorem opsW_pure {P : Program} {base N : Nat} {ops : Array Oper} {K : S → Prop} {KP : V → S → Prop} {o : Oper} {rest : List Oper} {s : S} (v : V) (hd : dstOk N o.dst) (hg : o.guard = none)
    (hop : ∀ (K : V → Heap → Prop) (KD : FuncId → List V → Prop) (KP : V → Heap → Prop), K v s.H → opW P base o (ρV s.σ) s.H K KD KP) (h : opsW P base N ops K KP rest ⟨upd s.σ o.dst v, s.H, s.D⟩) : opsW P base N ops K KP (o :: rest) s := by
  simp only [opsW, hg, wantV]
  exact ⟨hd, hop _ _ _ h⟩

set_option maxRecDepth 8000 in
theorem seed_r5 {b N : Nat} {j : Nat} {x : Int} {str : ByteArray} {c : UInt8} {s : S} {Q : Ex → S → Prop} {t1 t2 t3 t4 t5 t6 t7 t8 : Nat} {p1 p2 p3 p4 p5 p6 p7 p8 : String} {a1 a2 a3 a4 a5 a6 a7 a8 : Array Edge} (hN : 16 < N)
    (h0 : s.σ 0 = .str str) (h3 : s.σ 3 = .int .u64 x) (h4 : s.σ 4 = .int .i64 j) (hg : str[j]? = some c)
    (hq : ∀ (y : Int) (σ' : Nat → V), stepR x c y → σ' 3 = .int .u64 y → σ' 0 = s.σ 0 → σ' 6 = s.σ 6 → σ' 7 = s.σ 7 → Q .normal ⟨σ', s.H, s.D⟩) :
    NWp Tryz.prog b N (.region 5 #[{ dst := some 10, op := .move (.tmp 3), type := t1, pos := p1, after := a1, guard := none }, { dst := some 11, op := .move (.tmp 0), type := t2, pos := p2, after := a2, guard := none },
      { dst := some 12, op := .move (.tmp 4), type := t3, pos := p3, after := a3, guard := none }, { dst := some 13, op := .index 9 (.tmp 11) (.tmp 12), type := t4, pos := p4, after := a4, guard := none },
      { dst := some 14, op := .convert 5 53 (.tmp 13), type := t5, pos := p5, after := a5, guard := none }, { dst := some 15, op := .binOp .xor 53 (.tmp 10) (.tmp 14) 53, type := t6, pos := p6, after := a6, guard := none },
      { dst := some 16, op := .binOp .mul 53 (.tmp 15) (.const (.int .u64 1099511628211)) 53, type := t7, pos := p7, after := a7, guard := none }, { dst := some 3, op := .assign (.tmp 16), type := t8, pos := p8, after := a8, guard := none }] false) Q s := by
  have h5 : iknT Tryz.prog 5 = some .u8 := by kernel_rfl
  have h53 : iknT Tryz.prog 53 = some .u64 := by kernel_rfl
  have h9 : strT Tryz.prog 9 = true := by kernel_rfl
  have lt : ∀ d : Nat, d ≤ 16 → dstOk N (some d) := fun d hd => Nat.lt_of_le_of_lt hd hN
  refine nwp_region (by simp only [opsOk, List.all_cons, List.all_nil, Bool.and_true, Bool.and_eq_true, decide_eq_true_eq]; exact ⟨lt 10 (by decide), lt 11 (by decide), lt 12 (by decide), lt 13 (by decide), lt 14 (by decide), lt 15 (by decide), lt 16 (by decide), lt 3 (by decide)⟩) ?_
  refine opsW_pure (.int .u64 x) (lt 10 (by decide)) rfl (fun K _ _ h => by show K (s.σ 3) s.H; rw [h3]; exact h) ?_
  refine opsW_pure (.str str) (lt 11 (by decide)) rfl (fun K _ _ h => by show K (s.σ 0) s.H; rw [h0]; exact h) ?_
  refine opsW_pure (.int .i64 j) (lt 12 (by decide)) rfl (fun K _ _ h => by show K (s.σ 4) s.H; rw [h4]; exact h) ?_
  refine opsW_pure (.int .u8 c.toNat) (lt 13 (by decide)) rfl (fun K _ _ h => ?_) ?_
  · show optK (ixV Tryz.prog 9 (.str str) (.int .i64 j)) _
    have e1 : ixV Tryz.prog 9 (.str str) (.int .i64 j) = some (.int .u8 c.toNat) := by simp [ixV, h9, hg]
    rw [e1]; exact h
  refine opsW_pure (.int .u64 (IntKind.u64.wrap c.toNat)) (lt 14 (by decide)) rfl (fun K _ _ h => ?_) ?_
  · show cvW Tryz.prog b s.H 5 53 (.int .u8 c.toNat) _
    have e2 : cvV Tryz.prog 5 53 (.int .u8 c.toNat) = some (.int .u64 (IntKind.u64.wrap c.toNat)) := by simp only [cvV, h5, h53]
    unfold cvW; rw [e2]; exact h
  obtain ⟨z, hz⟩ : ∃ z, binV Tryz.prog .xor 53 (.int .u64 x) (.int .u64 (IntKind.u64.wrap c.toNat)) = some (.int .u64 z) := ⟨_, rfl⟩
  have hz2 : intV .xor .u64 x (IntKind.u64.wrap c.toNat) = some (.int .u64 z) := hz
  refine opsW_pure (.int .u64 z) (lt 15 (by decide)) rfl (fun K _ _ h => ?_) ?_
  · simp only [opW, ρV, upd, Nat.reduceEqDiff, if_false, if_true, hz, optK]
    exact h
  obtain ⟨y, hy, hy2⟩ : ∃ y, binV Tryz.prog .mul 53 (.int .u64 z) (.int .u64 1099511628211) = some (.int .u64 y) ∧ y = IntKind.u64.wrap (z * 1099511628211) := by
    refine ⟨IntKind.u64.wrap (z * 1099511628211), ?_, rfl⟩
    generalize (1099511628211 : Int) = w
    rfl
  have hst : stepR x c y := ⟨z, hz2, hy2⟩
  clear hy2
  refine opsW_pure (.int .u64 y) (lt 16 (by decide)) rfl (fun K _ _ h => ?_) ?_
  · simp only [opW, ρV, vconst, upd, Nat.reduceEqDiff, if_false, if_true, hy, optK]
    exact h
  refine opsW_pure (.int .u64 y) (lt 3 (by decide)) rfl (fun K _ _ h => h) ?_
  refine hq y _ hst ?_ ?_ ?_ ?_ <;> simp [upd]

theorem seed_r6 {b N : Nat} {j : Int} {s : S} {Q : Ex → S → Prop} {ty ty2 : Nat} {p p2 : String} {a a2 : Array Edge} (hN : 17 < N) (hN2 : 7 < N)
    (h7 : s.σ 7 = .int .i64 j)
    (hq : Q .normal ⟨upd (upd s.σ (some 17) (.int .i64 (IntKind.i64.wrap (j + 1)))) (some 7) (.int .i64 (IntKind.i64.wrap (j + 1))), s.H, s.D⟩) :
    NWp Tryz.prog b N (.region 6 #[{ dst := some 17, op := .binOp .add 3 (.tmp 7) (.const (.int .i64 1)) 3, type := ty, pos := p, after := a, guard := none }, { dst := some 7, op := .move (.tmp 17), type := ty2, pos := p2, after := a2, guard := none }] false) Q s := by
  refine nwp_region (by simp [opsOk, hN, hN2]) ?_
  refine ⟨hN, ?_⟩
  show optK (binV Tryz.prog .add 3 (s.σ 7) (.int .i64 1)) _
  rw [h7]
  refine ⟨hN2, ?_⟩
  exact hq

set_option maxRecDepth 8000 in
theorem seed_s5 {b N : Nat} {j : Nat} {x : Int} {str : ByteArray} {c : UInt8} {s : S} {Q : Ex → S → Prop} {t1 t2 t3 t4 t5 t6 t7 t8 : Nat} {p1 p2 p3 p4 p5 p6 p7 p8 : String} {a1 a2 a3 a4 a5 a6 a7 a8 : Array Edge} (hN : 17 < N)
    (h0 : s.σ 0 = .str str) (h3 : s.σ 3 = .int .u64 x) (h4 : s.σ 4 = .int .i64 j) (hg : str[j]? = some c)
    (hq : ∀ (y : Int) (σ' : Nat → V), stepR x c y → σ' 3 = .int .u64 y → σ' 0 = s.σ 0 → σ' 4 = s.σ 4 → Q .normal ⟨σ', s.H, s.D⟩) :
    NWp Tryz.prog b N (.region 5 #[{ dst := some 11, op := .move (.tmp 3), type := t1, pos := p1, after := a1, guard := none }, { dst := some 12, op := .move (.tmp 0), type := t2, pos := p2, after := a2, guard := none },
      { dst := some 13, op := .move (.tmp 4), type := t3, pos := p3, after := a3, guard := none }, { dst := some 14, op := .index 9 (.tmp 12) (.tmp 13), type := t4, pos := p4, after := a4, guard := none },
      { dst := some 15, op := .convert 5 53 (.tmp 14), type := t5, pos := p5, after := a5, guard := none }, { dst := some 16, op := .binOp .xor 53 (.tmp 11) (.tmp 15) 53, type := t6, pos := p6, after := a6, guard := none },
      { dst := some 17, op := .binOp .mul 53 (.tmp 16) (.const (.int .u64 1099511628211)) 53, type := t7, pos := p7, after := a7, guard := none }, { dst := some 3, op := .assign (.tmp 17), type := t8, pos := p8, after := a8, guard := none }] false) Q s := by
  have h5 : iknT Tryz.prog 5 = some .u8 := by kernel_rfl
  have h53 : iknT Tryz.prog 53 = some .u64 := by kernel_rfl
  have h9 : strT Tryz.prog 9 = true := by kernel_rfl
  have lt : ∀ d : Nat, d ≤ 17 → dstOk N (some d) := fun d hd => Nat.lt_of_le_of_lt hd hN
  refine nwp_region (by simp only [opsOk, List.all_cons, List.all_nil, Bool.and_true, Bool.and_eq_true, decide_eq_true_eq]; exact ⟨lt 11 (by decide), lt 12 (by decide), lt 13 (by decide), lt 14 (by decide), lt 15 (by decide), lt 16 (by decide), lt 17 (by decide), lt 3 (by decide)⟩) ?_
  refine opsW_pure (.int .u64 x) (lt 11 (by decide)) rfl (fun K _ _ h => by show K (s.σ 3) s.H; rw [h3]; exact h) ?_
  refine opsW_pure (.str str) (lt 12 (by decide)) rfl (fun K _ _ h => by show K (s.σ 0) s.H; rw [h0]; exact h) ?_
  refine opsW_pure (.int .i64 j) (lt 13 (by decide)) rfl (fun K _ _ h => by show K (s.σ 4) s.H; rw [h4]; exact h) ?_
  refine opsW_pure (.int .u8 c.toNat) (lt 14 (by decide)) rfl (fun K _ _ h => ?_) ?_
  · show optK (ixV Tryz.prog 9 (.str str) (.int .i64 j)) _
    have e1 : ixV Tryz.prog 9 (.str str) (.int .i64 j) = some (.int .u8 c.toNat) := by simp [ixV, h9, hg]
    rw [e1]; exact h
  refine opsW_pure (.int .u64 (IntKind.u64.wrap c.toNat)) (lt 15 (by decide)) rfl (fun K _ _ h => ?_) ?_
  · show cvW Tryz.prog b s.H 5 53 (.int .u8 c.toNat) _
    have e2 : cvV Tryz.prog 5 53 (.int .u8 c.toNat) = some (.int .u64 (IntKind.u64.wrap c.toNat)) := by simp only [cvV, h5, h53]
    unfold cvW; rw [e2]; exact h
  obtain ⟨z, hz⟩ : ∃ z, binV Tryz.prog .xor 53 (.int .u64 x) (.int .u64 (IntKind.u64.wrap c.toNat)) = some (.int .u64 z) := ⟨_, rfl⟩
  have hz2 : intV .xor .u64 x (IntKind.u64.wrap c.toNat) = some (.int .u64 z) := hz
  refine opsW_pure (.int .u64 z) (lt 16 (by decide)) rfl (fun K _ _ h => ?_) ?_
  · simp only [opW, ρV, upd, Nat.reduceEqDiff, if_false, if_true, hz, optK]
    exact h
  obtain ⟨y, hy, hy2⟩ : ∃ y, binV Tryz.prog .mul 53 (.int .u64 z) (.int .u64 1099511628211) = some (.int .u64 y) ∧ y = IntKind.u64.wrap (z * 1099511628211) := by
    refine ⟨IntKind.u64.wrap (z * 1099511628211), ?_, rfl⟩
    generalize (1099511628211 : Int) = w
    rfl
  have hst : stepR x c y := ⟨z, hz2, hy2⟩
  clear hy2
  refine opsW_pure (.int .u64 y) (lt 17 (by decide)) rfl (fun K _ _ h => ?_) ?_
  · simp only [opW, ρV, vconst, upd, Nat.reduceEqDiff, if_false, if_true, hy, optK]
    exact h
  refine opsW_pure (.int .u64 y) (lt 3 (by decide)) rfl (fun K _ _ h => h) ?_
  refine hq y _ hst ?_ ?_ ?_ <;> simp [upd]

theorem seed_s6 {b N : Nat} {j : Int} {s : S} {Q : Ex → S → Prop} {ty0 ty ty2 : Nat} {p0 p p2 : String} {a0 a a2 : Array Edge} (hN : 10 < N) (hN1 : 9 < N) (hN2 : 4 < N)
    (h7 : s.σ 4 = .int .i64 j)
    (hq : Q .normal ⟨upd (upd (upd s.σ (some 9) (.int .i64 j)) (some 10) (.int .i64 (IntKind.i64.wrap (j + 1)))) (some 4) (.int .i64 (IntKind.i64.wrap (j + 1))), s.H, s.D⟩) :
    NWp Tryz.prog b N (.region 4 #[{ dst := some 9, op := .move (.tmp 4), type := ty0, pos := p0, after := a0, guard := none }, { dst := some 10, op := .binOp .add 3 (.tmp 9) (.const (.int .i64 1)) 3, type := ty, pos := p, after := a, guard := none }, { dst := some 4, op := .assign (.tmp 10), type := ty2, pos := p2, after := a2, guard := none }] false) Q s := by
  refine nwp_region (by simp [opsOk, hN, hN1, hN2]) ?_
  refine opsW_pure (.int .i64 j) hN1 rfl (fun K _ _ h => by show K (s.σ 4) s.H; rw [h7]; exact h) ?_
  refine opsW_pure (.int .i64 (IntKind.i64.wrap (j + 1))) hN rfl (fun K _ _ h => ?_) ?_
  · have hb : binV Tryz.prog .add 3 (.int .i64 j) (.int .i64 1) = some (.int .i64 (IntKind.i64.wrap (j + 1))) := rfl
    simp only [opW, ρV, vconst, upd, if_true, hb, optK]
    exact h
  refine opsW_pure (.int .i64 (IntKind.i64.wrap (j + 1))) hN2 rfl (fun K _ _ h => h) ?_
  exact hq

structure SeedI (s : ByteArray) (H : Heap) (j : Nat) (t : S) : Prop where
  s0 : t.σ 0 = .str s
  s6 : t.σ 6 = .int .i64 s.size
  s7 : t.σ 7 = .int .i64 j
  s3 : t.σ 3 = .int .u64 (seedW s j)
  H : t.H = H
  D : t.D = []
  j : j ≤ s.size

set_option maxRecDepth 4000 in
theorem seed_call (s : ByteArray) (hs : s.size ≤ 9223372036854775807) (b : Nat) (H : Heap) : NCall Tryz.prog b 74 [.str s] H fun r H' => H' = H ∧ r = .ret (.int .u64 (seedW s s.size)) := by
  refine ncall_body Tryz.func74 rfl (by show 1 ≤ 19; decide) ?_
  have h9 : strT Tryz.prog 9 = true := by kernel_rfl
  refine nwp_seq (nwp_region rfl ?_)
  simp only [opsW, dstOk, wantV, opW, thenQ, upd, ρV, vconst]
  refine ⟨by show 2 < 19; decide, nwp_seq (nwp_region rfl ?_)⟩
  simp only [opsW, dstOk, wantV, opW, thenQ, upd, ρV, vconst]
  refine ⟨by show 3 < 19; decide, nwp_seq ?_⟩
  refine nwp_seq (nwp_region rfl ?_)
  simp only [opsW, dstOk, wantV, opW, thenQ, upd, ρV, vconst, bltW, lnV, List.map, σ0, optK, h9]
  refine ⟨by show 5 < 19; decide, by show 6 < 19; decide, by show 7 < 19; decide, nwp_block ?_⟩
  refine nwp_loop (fun n t => ∃ j, n = s.size - j ∧ SeedI s H j t) (n := s.size) ⟨0, by simp, ⟨rfl, rfl, rfl, rfl, rfl, rfl, Nat.zero_le _⟩⟩ ?_
  rintro n t ⟨j, rfl, I⟩
  have hx := I.s3
  refine nwp_seq (nwp_region rfl ?_)
  refine ⟨by show 8 < 19; decide, ?_⟩
  show optK (binV Tryz.prog .lss 3 (t.σ 7) (t.σ 6)) _
  have e0 : binV Tryz.prog .lss 3 (t.σ 7) (t.σ 6) = some (.bool (decide (j < s.size))) := by
    rw [I.s7, I.s6]; simp [binV, intV]
  rw [e0]
  refine nwp_seq ?_
  have hj := I.j
  by_cases hlt : j < s.size
  · refine nwp_cond (b := true) (by simp [ρV, upd, hlt]) (nwp_skip ?_)
    refine nwp_seq (nwp_block (nwp_seq (nwp_region rfl ?_)))
    refine ⟨by show 9 < 19; decide, by show 4 < 19; decide, ?_⟩
    have hget : s[j]? = some s[j] := by simp [hlt]
    refine seed_r5 (j := j) (x := seedW s j) (str := s) (c := s[j]) (by decide) (by simp [upd, I.s0]) (by simp [upd, hx]) (by simp [upd, ρV, I.s7]) hget ?_
    intro y σ' hst q3 q0 q6 q7
    have hy := step_seed hget hst
    refine seed_r6 (j := j) (by decide) (by decide) (by simpa [upd, I.s7] using q7) ?_
    refine ⟨s.size - (j + 1), by omega, j + 1, rfl, ?_⟩
    have hw : IntKind.i64.wrap ((j : Int) + 1) = ((j + 1 : Nat) : Int) := by rw [i64_in (by omega) (by omega)]; omega
    exact ⟨by simpa [upd, I.s0] using q0, by simpa [upd, I.s6] using q6, by simp [upd, hw], by rw [hy]; simpa [upd] using q3, I.H, I.D, by omega⟩
  · refine nwp_cond (b := false) (by simp [ρV, upd, hlt]) (nwp_exit ?_)
    refine nwp_seq (nwp_region rfl ?_)
    refine ⟨by show 18 < 19; decide, by show 2 < 19; decide, nwp_ret ?_⟩
    have ej : j = s.size := by omega
    simp [bodyQ, resVs, resV, oneV, I.D, I.H, hx, upd, ρV, ej]

structure SeedJ (s : ByteArray) (H : Heap) (j : Nat) (t : S) : Prop where
  s0 : t.σ 0 = .str s
  s4 : t.σ 4 = .int .i64 j
  s3 : t.σ 3 = .int .u64 (seedW s j)
  H : t.H = H
  D : t.D = []
  j : j ≤ s.size

set_option maxRecDepth 4000 in
theorem seed_call2 (s : ByteArray) (hs : s.size ≤ 9223372036854775807) (b : Nat) (H : Heap) : NCall Tryz.prog b 88 [.str s] H fun r H' => H' = H ∧ r = .ret (.int .u64 (seedW s s.size)) := by
  refine ncall_body Tryz.func88 rfl (by show 1 ≤ 19; decide) ?_
  have h9 : strT Tryz.prog 9 = true := by kernel_rfl
  refine nwp_seq (nwp_region rfl ?_)
  simp only [opsW, dstOk, wantV, opW, thenQ, upd, ρV, vconst]
  refine ⟨by show 2 < 19; decide, nwp_seq (nwp_region rfl ?_)⟩
  simp only [opsW, dstOk, wantV, opW, thenQ, upd, ρV, vconst]
  refine ⟨by show 3 < 19; decide, nwp_seq ?_⟩
  refine nwp_seq (nwp_region rfl ?_)
  simp only [opsW, dstOk, wantV, opW, thenQ, upd, ρV, vconst, σ0]
  refine ⟨by show 4 < 19; decide, nwp_block ?_⟩
  refine nwp_loop (fun n t => ∃ j, n = s.size - j ∧ SeedJ s H j t) (n := s.size) ⟨0, by simp, ⟨rfl, rfl, rfl, rfl, rfl, Nat.zero_le _⟩⟩ ?_
  rintro n t ⟨j, rfl, I⟩
  have hx := I.s3
  refine nwp_seq (nwp_seq (nwp_region rfl ?_))
  have lt : ∀ d : Nat, d ≤ 18 → dstOk Tryz.f88.ntmps (some d) := fun d hd => Nat.lt_of_le_of_lt hd (by decide)
  refine opsW_pure (.int .i64 j) (lt 5 (by decide)) rfl (fun K _ _ h => by show K (t.σ 4) t.H; rw [I.s4]; exact h) ?_
  refine opsW_pure (.str s) (lt 6 (by decide)) rfl (fun K _ _ h => by show K (t.σ 0) t.H; rw [I.s0]; exact h) ?_
  refine opsW_pure (.int .i64 s.size) (lt 7 (by decide)) rfl (fun K _ _ h => ?_) ?_
  · simp only [opW, bltW, List.map, ρV, upd, if_true, lnV, h9, optK]
    exact h
  refine opsW_pure (.bool (decide (j < s.size))) (lt 8 (by decide)) rfl (fun K _ _ h => ?_) ?_
  · have e0 : binV Tryz.prog .lss 3 (.int .i64 j) (.int .i64 s.size) = some (.bool (decide (j < s.size))) := by simp [binV, intV]
    simp only [opW, ρV, upd, Nat.reduceEqDiff, if_false, if_true, e0, optK]
    exact h
  have hj := I.j
  by_cases hlt : j < s.size
  · refine nwp_cond (b := true) (by simp [ρV, upd, hlt]) (nwp_skip ?_)
    refine nwp_seq (nwp_block ?_)
    have hget : s[j]? = some s[j] := by simp [hlt]
    refine seed_s5 (j := j) (x := seedW s j) (str := s) (c := s[j]) (by decide) (by simp [upd, I.s0]) (by simp [upd, hx]) (by simp [upd, I.s4]) hget ?_
    intro y σ' hst q3 q0 q4
    have hy := step_seed hget hst
    refine seed_s6 (j := j) (by decide) (by decide) (by decide) (by simpa [upd, I.s4] using q4) ?_
    refine ⟨s.size - (j + 1), by omega, j + 1, rfl, ?_⟩
    have hw : IntKind.i64.wrap ((j : Int) + 1) = ((j + 1 : Nat) : Int) := by rw [i64_in (by omega) (by omega)]; omega
    exact ⟨by simpa [upd, I.s0] using q0, by simp [upd, hw], by rw [hy]; simpa [upd] using q3, I.H, I.D, by omega⟩
  · refine nwp_cond (b := false) (by simp [ρV, upd, hlt]) (nwp_exit ?_)
    refine nwp_seq (nwp_region rfl ?_)
    refine ⟨by show 18 < 19; decide, by show 2 < 19; decide, nwp_ret ?_⟩
    have ej : j = s.size := by omega
    simp [bodyQ, resVs, resV, oneV, I.D, I.H, hx, upd, ρV, ej]

theorem seed_ok : GivOk Tryz.prog 74 seedF := seedF_ok (fun s => seedW_rng s s.size) seed_call
theorem seed_ok2 : GivOk Tryz.prog 88 seedF := seedF_ok (fun s => seedW_rng s s.size) seed_call2

theorem giv1_ok : ∀ f c, giv1 f = some c → GivOk Tryz.prog f c := by
  intro f c h
  unfold giv1 at h
  split at h
  · rename_i q
    cases h
    simp only [Bool.or_eq_true, decide_eq_true_eq] at q
    rcases q with rfl | rfl
    · exact seed_ok
    · exact seed_ok2
  · cases h
end Go.Proofs.YtgjocnogcolfbaaGreat
