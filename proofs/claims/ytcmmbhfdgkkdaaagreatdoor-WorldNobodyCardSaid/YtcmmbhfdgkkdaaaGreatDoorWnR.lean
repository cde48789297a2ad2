/- Said of WorldNobody: for every step and every number, the law's call comes to 'true' and leaves all that was there as it was; and its card. -/
import Derived.Test.YtcmmbhfdgkkdaaaGreatDoorTie
import Derived.Test.YtcmmbhfdgkkdaaaGreatDoorCards
import Derived.Test.YtcmmbhfdgkkdaaaGreatDoorWnB
import Derived.WalkKit
import Derived.ProofKit
import Derived.ChangeMaps5
import Derived.SevenTiedAt
import Derived.LaidMore
import Derived.OpenShut
import Derived.Stop.Joined
namespace Go.Proofs.YtcmmbhfdgkkdaaaGreatDoor
open Go Go.ChangeShapes Go.WideShapes Go.ChangeAt Go.RowKit Go.Ns Go.ChangeMaps

theorem own : ownKnob Tryz.prog.godebug = none := by kernel_rfl
theorem lays : laidOutB Tryz.prog = true := by kernel_rfl

/-- A cell of which nothing is asked but that it may stand in a cell and leads to no block of the call's own. -/
def Opq (v : V) : Prop := v.cell = true ∧ belowV 0 v = true

theorem start (x0 x1 x2 x3 x4 x5 x6 x7 x8 : V) (h : ∀ v ∈ [x0, x1, x2, x3, x4, x5, x6, x7, x8], Opq v) :
    StS [x0, x1, x2, x3, x4, x5, x6, x7, x8] [] 0 0 s0.q.E s0.q.st ⟨σ0 [.agg [x0, x1, x2, x3, x4, x5, x6, x7], x8], E0, []⟩ := by
  refine ⟨⟨rfl, ?_, ?_⟩, ?_, ?_, .nil⟩
  · intro i d v hd hv
    have hm : v ∈ [x0, x1, x2, x3, x4, x5, x6, x7, x8] := List.mem_of_getElem? hv
    have e : d = .any := by
      have : d ∈ s0.q.E := List.mem_of_getElem? hd
      simpa [s0] using this
    subst e
    exact (h v hm).1
  · intro i lo hi f v hd hv
    have : Dm.inf lo hi f ∈ s0.q.E := List.mem_of_getElem? hd
    simp [s0] at this
  · intro t
    match t with
    | 0 =>
      refine .agg _ _ ?_
      exact .cons _ _ _ _ (.opq 0 _ rfl (h _ (by simp)).1) (.cons _ _ _ _ (.opq 1 _ rfl (h _ (by simp)).1) (.cons _ _ _ _ (.opq 2 _ rfl (h _ (by simp)).1) (.cons _ _ _ _ (.opq 3 _ rfl (h _ (by simp)).1)
        (.cons _ _ _ _ (.opq 4 _ rfl (h _ (by simp)).1) (.cons _ _ _ _ (.opq 5 _ rfl (h _ (by simp)).1) (.cons _ _ _ _ (.opq 6 _ rfl (h _ (by simp)).1) (.cons _ _ _ _ (.opq 7 _ rfl (h _ (by simp)).1) .nil)))))))
    | 1 => exact .opq 8 _ rfl (h x8 (by simp)).1
    | t + 2 => exact .undef _
  · exact ⟨rfl, fun i j id q => by simp at q, fun i id q => by simp at q, fun i id o q => by simp at q, fun i id q => by simp at q, Nat.le_refl _, fun i v hv => (h v (List.mem_of_getElem? hv)).2⟩

theorem law (x0 x1 x2 x3 x4 x5 x6 x7 x8 : V) (h : ∀ v ∈ [x0, x1, x2, x3, x4, x5, x6, x7, x8], Opq v) :
    NCall Tryz.prog 0 3 [.agg [x0, x1, x2, x3, x4, x5, x6, x7], x8] E0 fun r _ => r = .ret (.bool true) :=
  law_ok (c := body) (r := 4) (q := s0.q) Tryz.func3 rfl rfl (by show 2 ≤ 101; decide) g0 (start x0 x1 x2 x3 x4 x5 x6 x7 x8 h)

theorem said_below {P : Program} {f : FuncId} {args : List V} {rargs : Array Value} {W : World} (h : NCall P 0 f args E0 fun r _ => r = .ret (.bool true)) (ha : RL (Cx.start W) args rargs.toList) :
    Calls P f rargs W fun e W' => e = .returned (.bool true) ∧ Below W.heap.size W W' := by
  have := h (Cx.start W) rargs.toList (hr_start W) ha (Nat.zero_le _)
  refine (show Calls P f rargs.toList.toArray (Cx.start W).w _ from this).mono ?_
  rintro e w' ⟨r, H', X', rfl, hres, rfl, _, he, _⟩
  refine ⟨?_, he.os, he.tape, he.output, he.size, fun k hk => he.frozen k hk⟩
  cases e with
  | returned rv =>
    simp only [ResR] at hres
    cases hres
    rfl
  | panicked ch => exact hres.elim
  | outgrown => exact hres.elim

section
variable {H : Type} {enc : TypeId × Value → H} {W : World}

/-- Is there an opaque abstract value for this one? -/
def Has (W : World) (rv : Value) : Prop := ∃ v, Opq v ∧ R (Cx.start W) v rv

theorem has_int {P : Program} {n : Nat} {t : TypeId} {k : IntKind} {cs : List Value} {y : DataW H × List MemPlace} (ht : P.underlying t = some (.int k)) (h : DataW.trod enc P W 0 (fun _ => true) true n t cs = some y) : ∃ c, cs = [c] ∧ Has W c := by
  obtain ⟨z, rfl, _, _⟩ := DataW.trod_int ht h
  exact ⟨_, rfl, .int k z, ⟨rfl, rfl⟩, .int _ _⟩

theorem has_flt {P : Program} {n : Nat} {t : TypeId} {k : FloatKind} {cs : List Value} {y : DataW H × List MemPlace} (ht : P.underlying t = some (.float k)) (h : DataW.trod enc P W 0 (fun _ => true) true n t cs = some y) : ∃ c, cs = [c] ∧ Has W c := by
  cases n with
  | zero => simp [DataW.trod] at h
  | succ n =>
    unfold DataW.trod at h
    rw [ht] at h
    split at h <;> simp_all
    exact ⟨.flt _ _, ⟨rfl, rfl⟩, .flt _ _⟩

theorem add_off (b off j : Nat) : Addr.add ⟨b, off, none⟩ j = ⟨b, off + j, none⟩ := by
  unfold Addr.add
  split
  · rename_i q; simp_all
  · rfl

theorem has_bytes {P : Program} {n : Nat} {t e : TypeId} {k : IntKind} {cs : List Value} {y : DataW H × List MemPlace} (ht : P.underlying t = some (.slice e)) (he : P.underlying e = some (.int k)) (hc : P.cellsOf e = 1)
    (h : DataW.trod enc P W 0 (fun _ => true) true n t cs = some y) : ∃ c, cs = [c] ∧ Has W c := by
  rcases DataW.trod_slice ht h with ⟨rfl, _⟩ | ⟨a, len, cap, elems, rest, m, rfl, rfl, _, _, hle, _, hlen, hel, _, _⟩
  · exact ⟨_, rfl, .nils, ⟨rfl, rfl⟩, .nils⟩
  · refine ⟨_, rfl, ?_⟩
    cases len with
    | zero => exact ⟨.fsl false 0 [], ⟨rfl, rfl⟩, .emp a cap⟩
    | succ len =>
      rw [hc] at hel
      have hcell : ∀ i, i < len + 1 → ∃ z, W.cell? (a.add i) = some (.int k z) := by
        intro i hi
        have q := hel i hi
        have : elems[i]? = some (elems[i]'(by omega)) := List.getElem?_eq_getElem _
        rw [this, Option.bind_eq_some_iff] at q
        obtain ⟨cs', q1, q2⟩ := q
        obtain ⟨z, rfl, _, _⟩ := DataW.trod_int he q2
        exact ⟨z, by simpa using cell_of_cells?_one q1⟩
      have hspot : a.spot = none := by
        obtain ⟨z, q⟩ := hcell 0 (by omega)
        simpa [Addr.add] using World.cell?_spot q
      obtain ⟨b, off, spot⟩ := a
      simp only at hspot
      subst hspot
      have hb : b < W.heap.size := by
        obtain ⟨z, q⟩ := hcell 0 (by omega)
        unfold World.cell? at q
        simp only [Addr.add] at q
        split at q
        · rename_i hq; exact (Array.getElem?_eq_some_iff.1 hq).1
        · cases q
      -- the cells one by one
      have hall : ∀ m, m ≤ len + 1 → ∃ zs : List Int, zs.length = m ∧ ∀ j z, zs[j]? = some z → W.cell? ⟨b, off + j, none⟩ = some (.int k z) := by
        intro m
        induction m with
        | zero => exact fun _ => ⟨[], rfl, fun j z q => by simp at q⟩
        | succ m ih =>
          intro hm
          obtain ⟨zs, q1, q2⟩ := ih (by omega)
          obtain ⟨z, q3⟩ := hcell m (by omega)
          refine ⟨zs ++ [z], by simp [q1], fun j x hx => ?_⟩
          rcases Nat.lt_or_ge j zs.length with hj | hj
          · rw [List.getElem?_append_left hj] at hx
            exact q2 j x hx
          · rw [List.getElem?_append_right hj] at hx
            have e0 : j = m := by
              rcases Nat.eq_zero_or_pos (j - zs.length) with e | e
              · omega
              · rw [List.getElem?_eq_none (by show 1 ≤ _; omega)] at hx; cases hx
            subst e0
            rw [q1] at hx
            simp at hx
            subst hx
            rw [← add_off]; exact q3
      obtain ⟨zs, q1, q2⟩ := hall (len + 1) (Nat.le_refl _)
      refine ⟨.fsl false (len + 1) (zs.map (V.int k)), ⟨rfl, ?_⟩, ?_⟩
      · simp only [belowV]
        exact belowVs_all fun v hv => by
          obtain ⟨z, _, rfl⟩ := List.mem_map.1 hv
          rfl
      · refine .fsl false (len + 1) _ ⟨b, off, none⟩ (zs.map (Value.int k)) cap ?_ rfl hb hle (fun q => by cases q) ?_ ?_
        · simp [List.all_eq_true, V.cell]
        · intro j v hv
          rw [List.getElem?_map, Option.map_eq_some_iff] at hv
          obtain ⟨z, q3, rfl⟩ := hv
          exact q2 j z q3
        · exact RL.of_get (by simp) fun j v rv h1 h2 => by
            rw [List.getElem?_map, Option.map_eq_some_iff] at h1 h2
            obtain ⟨z, q3, rfl⟩ := h1
            obtain ⟨z', q4, rfl⟩ := h2
            rw [q3] at q4; cases q4
            exact .int _ _

theorem c3 : Tryz.prog.cellsOf 3 = 1 := by kernel_rfl
theorem c5 : Tryz.prog.cellsOf 5 = 1 := by kernel_rfl
theorem c22 : Tryz.prog.cellsOf 22 = 1 := by kernel_rfl
theorem c23 : Tryz.prog.cellsOf 23 = 1 := by kernel_rfl
theorem c25 : Tryz.prog.cellsOf 25 = 8 := by kernel_rfl

set_option maxRecDepth 100000 in
theorem step_of {base : Nat} {v : Value} {d : DataW H} {p : List MemPlace} (hv : Value.okWide Tryz.prog W .any base 25 v) (h : DataW.Trod enc Tryz.prog W 0 (fun _ => true) true 25 v d p) :
    ∃ x0 x1 x2 x3 x4 x5 x6 x7, (∀ x ∈ [x0, x1, x2, x3, x4, x5, x6, x7], Opq x) ∧ R (Cx.start W) (.agg [x0, x1, x2, x3, x4, x5, x6, x7]) v := by
  obtain ⟨cs, rfl, hn⟩ := okWide_struct Tryz.underlying25 hv
  obtain ⟨fuel, h⟩ := h
  have h' : DataW.trod enc Tryz.prog W 0 (fun _ => true) true fuel 25 cs.toList = some (d, p) := h
  obtain ⟨xs, n, rfl, _, _, hl, hf⟩ := DataW.trod_struct Tryz.underlying25 h'
  rw [c25] at hn
  match cs, hn with
  | ⟨[v0, v1, v2, v3, v4, v5, v6, v7]⟩, _ =>
  match xs, hl with
  | [y0, y1, y2, y3, y4, y5, y6, y7], _ =>
  have g0 : DataW.trod enc Tryz.prog W 0 (fun _ => true) true n 3 (List.take (Tryz.prog.cellsOf 3) [v0, v1, v2, v3, v4, v5, v6, v7]) = some y0 := hf 0 _ rfl
  have g1 : DataW.trod enc Tryz.prog W 0 (fun _ => true) true n 3 (List.take (Tryz.prog.cellsOf 3) [v1, v2, v3, v4, v5, v6, v7]) = some y1 := hf 1 _ rfl
  have g2 : DataW.trod enc Tryz.prog W 0 (fun _ => true) true n 3 (List.take (Tryz.prog.cellsOf 3) [v2, v3, v4, v5, v6, v7]) = some y2 := hf 2 _ rfl
  have g3 : DataW.trod enc Tryz.prog W 0 (fun _ => true) true n 3 (List.take (Tryz.prog.cellsOf 3) [v3, v4, v5, v6, v7]) = some y3 := hf 3 _ rfl
  have g4 : DataW.trod enc Tryz.prog W 0 (fun _ => true) true n 22 (List.take (Tryz.prog.cellsOf 22) [v4, v5, v6, v7]) = some y4 := hf 4 _ rfl
  have g5 : DataW.trod enc Tryz.prog W 0 (fun _ => true) true n 22 (List.take (Tryz.prog.cellsOf 22) [v5, v6, v7]) = some y5 := hf 5 _ rfl
  have g6 : DataW.trod enc Tryz.prog W 0 (fun _ => true) true n 5 (List.take (Tryz.prog.cellsOf 5) [v6, v7]) = some y6 := hf 6 _ rfl
  have g7 : DataW.trod enc Tryz.prog W 0 (fun _ => true) true n 23 (List.take (Tryz.prog.cellsOf 23) [v7]) = some y7 := hf 7 _ rfl
  rw [c3] at g0 g1 g2 g3
  rw [c22] at g4 g5
  rw [c5] at g6
  rw [c23] at g7
  obtain ⟨_, e0, x0, o0, r0⟩ := has_int Tryz.underlying3 g0
  obtain ⟨_, e1, x1, o1, r1⟩ := has_int Tryz.underlying3 g1
  obtain ⟨_, e2, x2, o2, r2⟩ := has_int Tryz.underlying3 g2
  obtain ⟨_, e3, x3, o3, r3⟩ := has_int Tryz.underlying3 g3
  obtain ⟨_, e4, x4, o4, r4⟩ := has_flt Tryz.underlying22 g4
  obtain ⟨_, e5, x5, o5, r5⟩ := has_flt Tryz.underlying22 g5
  obtain ⟨_, e6, x6, o6, r6⟩ := has_int Tryz.underlying5 g6
  obtain ⟨_, e7, x7, o7, r7⟩ := has_bytes Tryz.underlying23 Tryz.underlying5 c5 g7
  simp at e0 e1 e2 e3 e4 e5 e6 e7
  subst e0 e1 e2 e3 e4 e5 e6 e7
  refine ⟨x0, x1, x2, x3, x4, x5, x6, x7, ?_, ?_⟩
  · intro x hx
    simp only [List.mem_cons, List.not_mem_nil, or_false] at hx
    rcases hx with rfl | rfl | rfl | rfl | rfl | rfl | rfl | rfl <;> assumption
  · refine .agg _ [v0, v1, v2, v3, v4, v5, v6, v7] ?_ (.cons _ _ _ _ r0 (.cons _ _ _ _ r1 (.cons _ _ _ _ r2 (.cons _ _ _ _ r3 (.cons _ _ _ _ r4 (.cons _ _ _ _ r5 (.cons _ _ _ _ r6 (.cons _ _ _ _ r7 .nil))))))))
    simp [o0.1, o1.1, o2.1, o3.1, o4.1, o5.1, o6.1, o7.1]
end

noncomputable abbrev laidL {H : Type} : List (String × DataW H) := [("math/bits.deBruijn64tab", Rows.laid_math_bits_deBruijn64tab)]

set_option maxRecDepth 100000 in
theorem door_met (os : Os) (args : Array Value) : laidMetH Tryz.prog laidL ((World.doorLaid Tryz.prog 400 os).forCall (fun _ _ => 0) ⟨#[], args, []⟩).memory :=
  laidMetH_of_parts3 (fuel := 8) (laidMet_of_run' 8 (by kernel_rfl) (by kernel_rfl)) (by kernel_rfl) (by kernel_rfl)

set_option maxRecDepth 100000 in
theorem lifted (os : Os) (started : os.Started) (H : Type) (enc : TypeId × Value → H) :
    ReturnsInHanded {} Tryz.checked os 3 .any (fun w args => (Rows.worldNobodySpec.pre enc Tryz.prog Tryz.f3 [] false w args ∧ laidMetH Tryz.prog laidL w) ∧ sizedMet enc Tryz.prog Tryz.f3 (OpenSpec.ofChange Rows.worldNobodySpec) false w args)
      (Rows.worldNobodySpec.post enc Tryz.prog Tryz.f3 false true false false) := by
  refine returnsInHanded_of_change_and (C := Tryz.checked) (X := fun w _ => laidMetH Tryz.prog laidL w) (fun _ _ _ hh h => h.of_heap hh) own started (by kernel_rfl) Tryz.func3
    (ChangeSpec.witness_shaped (enc := enc) (C := Tryz.checked) (os := os) (X := fun w _ => laidMetH Tryz.prog laidL w) false (World.doorLaid Tryz.prog 400 os)
      #[.agg #[.int .i64 0, .int .i64 0, .int .i64 0, .int .i64 0, .float .f64 0, .float .f64 0, .int .u8 0, .slice none 0 0], .int .i64 0] 8 rfl (World.shaped_of_RefB (by kernel_rfl) (by kernel_rfl)) (by kernel_rfl) (by kernel_rfl) (by kernel_rfl) (door_met os _)) ?_
  intro W base args ds gs before hval0 hW _ _ _ _
  have hval : ∀ (j : Nat) t v, Tryz.f3.params[j]? = some t → args[j]? = some v → Value.okWide Tryz.prog W .any base t v := hval0
  have hW' := hW
  obtain ⟨p, q, hA0, hV, rfl, hfz, hnd⟩ := hW
  have hA : DataW.TrodAll enc Tryz.prog W 0 (fun _ => true) true Tryz.f3.params.toList args.toList ds p := hA0
  rw [Tryz.params3] at hA hval
  obtain ⟨v0, v1, d0, d1, p0, p1, rfl, rfl, rfl, h0, h1⟩ := trodAll_two hA
  obtain ⟨rfl, rfl⟩ := trodVars_none hV
  have h0k := h0
  obtain ⟨x0, x1, x2, x3, x4, x5, x6, x7, o, r0⟩ := step_of (hval 0 25 v0 rfl rfl) h0
  obtain ⟨a1, rfl, rfl, rfl, w1⟩ := open_int Tryz.underlying3 (hval 1 3 v1 rfl rfl) h1
  clear hA0 hval0
  simp only [List.append_nil] at hW'
  have o' : ∀ v ∈ [x0, x1, x2, x3, x4, x5, x6, x7, V.int .i64 a1], Opq v := by
    intro v hv
    rcases List.mem_append.1 (show v ∈ [x0, x1, x2, x3, x4, x5, x6, x7] ++ [V.int .i64 a1] from hv) with hv | hv
    · exact o v hv
    · simp only [List.mem_singleton] at hv; subst hv; exact ⟨rfl, rfl⟩
  refine (said_below (W := W) (rargs := #[v0, .int .i64 a1]) (law x0 x1 x2 x3 x4 x5 x6 x7 (.int .i64 a1) o') (.cons _ _ _ _ r0 (.cons _ _ _ _ (.int _ _) .nil))).mono fun e W' ⟨he, hb⟩ => ?_
  subst he
  have hlt : ∀ x ∈ p0, x.block < W.heap.size := fun x hx => by simpa using hW'.lt x hx
  exact ⟨_, rfl, ⟨_, [], _, [], _, [], hW', trodAll_mk1 (shut_bool Tryz.underlying4 _),
    trodAll_mk2 (Below.trod lays (by kernel_rfl) (of_decide_eq_true (by kernel_rfl)) h0k hb hlt) (shut_int Tryz.underlying3 w1), rfl, hb.frame _, fun h => by cases h⟩⟩

theorem row_holds : Rows.WorldNobodySaid :=
  OpenClaim.holds_of_wide 3 Tryz.f3 rfl rfl rfl rfl rfl rfl rfl ⟨rfl, rfl, rfl, rfl, rfl⟩ rfl rfl rfl rfl rfl (by kernel_rfl) Tryz.func3 (by kernel_rfl)
    (of_decide_eq_true (by kernel_rfl)) (by unfold Func.isWrapper; first | (rw [if_pos (by decide +kernel)]; kernel_rfl) | (rw [if_neg (by decide +kernel)]; exact ⟨rfl, rfl⟩))
    (fun os started H enc _ => lifted os started H enc)

theorem card_holds : Rows.WorldNobodyCardSaid :=
  Claim7.holds_tied_plain_at .later [] [.data] true (true, "dea250f8072f9a90bc8c18db66a7e2002439b3852e57785cfe9f28cd5d6f5716") true
    row_holds (fun _ h => by cases h) (by kernel_rfl) (fun _ h => by cases h) worldNobody_row_tie rfl ⟨rfl, rfl⟩ (by kernel_rfl) rfl
    (fun f fn hf hfn => by
      obtain rfl : f = 3 := Option.some.inj ((show Tryz.prog.funcNamed "ceilidh/ceilidhlaw23.WorldNobody" = some 3 by kernel_rfl).symm.trans hf) |>.symm
      obtain rfl : fn = Tryz.f3 := (Option.some.inj (Tryz.func3.symm.trans hfn)).symm
      exact ⟨by kernel_rfl, fun j t ht => by
        rw [Tryz.params3] at ht
        have hm : t ∈ [25, 3] := by simpa using Array.mem_of_getElem? ht
        have hall : ([25, 3].all fun u => !Tryz.prog.wantsStandIn u) = true := by kernel_rfl
        exact (show Tryz.prog.wantsStandIn t = false by simpa using List.all_eq_true.1 hall t hm)⟩)
    (by kernel_rfl)
end Go.Proofs.YtcmmbhfdgkkdaaaGreatDoor
