/- A logic of the model's calls, part 5. -/
import Derived.Test.YtcmmbhfdgkkdaaaGreatDoorNs4
/- Ns, part Sh: an operation with unknowns. -/
namespace Go.Ns

abbrev CallA := Env → Nat → FuncId → List V → Heap → (Env → Res → Heap → Bool) → Bool

def ResS (θ : List V) (ι : List Nat) : Res → Res → Prop
  | .ret v, .ret v' => Sb θ ι v v'
  | .pan v, .pan v' => Sb θ ι v v'
  | _, _ => False

/-- What has been reckoned stands for what is there. -/
def KO (θ : List V) (ι : List Nat) (b b' : Nat) (K : Env → V → Heap → Bool) (v' : V) (H' : Heap) : Prop :=
  ∃ θ2 E2 ι2 v H2, Grow θ θ2 ∧ ι <+: ι2 ∧ EnvOk θ2 E2 ∧ SbH θ2 ι2 b b' H2 H' ∧ Sb θ2 ι2 v v' ∧ K E2 v H2 = true
def KR (θ : List V) (ι : List Nat) (b b' : Nat) (K : Env → Res → Heap → Bool) (r' : Res) (H' : Heap) : Prop :=
  ∃ θ2 E2 ι2 r H2, Grow θ θ2 ∧ ι <+: ι2 ∧ EnvOk θ2 E2 ∧ SbH θ2 ι2 b b' H2 H' ∧ ResS θ2 ι2 r r' ∧ K E2 r H2 = true

def CallOkA (P : Program) (call : CallA) : Prop :=
  ∀ (E : Env) (b : Nat) (f : FuncId) (args : List V) (H : Heap) (K : Env → Res → Heap → Bool), call E b f args H K = true →
    ∀ (θ : List V) (ι : List Nat) (b' : Nat) (args' : List V) (H' : Heap), EnvOk θ E → SbH θ ι b b' H H' → SbL θ ι args args' → NCall P b' f args' H' (KR θ ι b b' K)

def callKA (K KP : Env → V → Heap → Bool) : Env → Res → Heap → Bool
  | E, .ret v, H => K E v H
  | E, .pan v, H => KP E v H

def bltA (P : Program) (b : Nat) (E : Env) (H : Heap) (bi : Builtin) (ts : List TypeId) (args : List V) (K : Env → V → Heap → Bool) : Bool :=
  match bi, ts, args with
  | .append, [t, t1], [s, x] => zOk P (elT P t) && optHB (apV P b H t t1 s x) (K E)
  | .len, [t], [x] => match strU E x with
    | some m => strT P t && freshI E .i64 0 m fun E v => K E v H
    | none => optB (lnV P H t x) fun v => known v && K E v H
  | .cap, [t], [x] => optB (cpV P t x) fun v => known v && K E v H
  | .min, _, xs => mmA E false xs fun E v => K E v H
  | .max, _, xs => mmA E true xs fun E v => K E v H
  | .delete, [t, _], [m, k] => dlA P b E H t m k K
  | .clear, [t], [x] => zOk P (elT P t) && optUB (clV P b H t x) (K E)
  | _, _, _ => false

/-- Is it known whether a row begins with a tuple? -/
def okCap : List V → Bool
  | .undef :: _ => false
  | _ => true

theorem hdT_sb {θ : List V} {ι : List Nat} {cap cap' : List V} (ho : okCap cap = true) (h : SbL θ ι cap cap') : hdT cap' = hdT cap := by
  cases h with
  | nil => rfl
  | cons v v' vs vs' h0 h1 =>
    cases h0 with
    | undef => simp [okCap] at ho
    | opq i _ q1 q2 => cases v' <;> first | rfl | (simp [V.cell] at q2; done)
    | _ => rfl

theorem callArgs_sb {θ : List V} {ι : List Nat} {args args' cap cap' : List V} (ho : okCap cap = true) (ha : SbL θ ι args args') (h : SbL θ ι cap cap') : SbL θ ι (callArgs args cap) (callArgs args' cap') := by
  cases hq : hdT cap with
  | false =>
    rw [callArgs_no hq, callArgs_no (by rw [hdT_sb ho h]; exact hq)]
    exact ha.append h
  | true =>
    cases h with
    | nil => simp [hdT] at hq
    | cons v v' vs vs' h0 h1 =>
      cases h0 <;> simp [hdT] at hq
      rename_i fs fs' h2
      exact h2.append (ha.append h1)

def opA (P : Program) (call : CallA) (b : Nat) (E : Env) (o : Oper) (ρ : Operand → V) (H : Heap) (K : Env → V → Heap → Bool) (KD : Env → FuncId → List V → Bool) (KP : Env → V → Heap → Bool) : Bool :=
  match o.op with
  | .move x | .assign x => K E (ρ x) H
  | .pick c x y => boolA E (ρ c) fun E p => K E (if p = true then ρ x else ρ y) H
  | .alloc t => zOk P t && optHB (alV P H t) (K E)
  | .box _ x => optHB (bxV H (ρ x)) (K E)
  | .build t ps => zOk P t && optB (bdV P t (ps.toList.map fun p => (p.1, ρ p.2))) fun v => K E v H
  | .buildSlice t n ps => zOk P (elT P t) && optB (bsV P t n (ps.toList.map fun p => (p.1, ρ p.2))) fun v => K E v H
  | .load t a => optB (ldV P H t (ρ a)) fun v => K E v H
  | .store t a x => optUB (stoV P b H t (ρ a) (ρ x)) (K E)
  | .nilCheck x => match ρ x with | .ptr id g o => K E (.ptr id g o) H | .fptr cs => K E (.fptr cs) H | _ => false
  | .binOp op t x y _ => binA P E op t (ρ x) (ρ y) fun E v => K E v H
  | .unOp op _ x => unA E op (ρ x) fun E v => K E v H
  | .convert s d x => cvA P E s d (ρ x) fun E v => K E v H
  | .makeInterface t x => optB (miV P t (ρ x)) fun v => K E v H
  | .makeFunc (.func f) first cap => if first.isEmpty then okCap (cap.toList.map ρ) && !hdT (cap.toList.map ρ) && K E (.fn f (cap.toList.map ρ)) H else K E (.fn f (.tup (first.toList.map ρ) :: cap.toList.map ρ)) H
  | .makeMap _ none => K E (mmpV H).1 (mmpV H).2
  | .makeSlice t l c => zOk P (elT P t) && known (ρ l) && known (ρ c) && optHB (mkV P b H t (ρ l) (ρ c)) (K E)
  | .slice t x lo hi mx => smallV (lo.map ρ) && smallV (hi.map ρ) && smallV (mx.map ρ) && optB (slV P H t (ρ x) (lo.map ρ) (hi.map ρ) (mx.map ρ)) fun v => K E v H
  | .fieldAddr t x i => optB (faV P t (ρ x) i) fun v => K E v H
  | .field t x i => optB (fdV P t (ρ x) i) fun v => K E v H
  | .indexAddr t x i => idxA E (ρ i) fun E i => optB (iaV P t (ρ x) i) fun v => K E v H
  | .index t x i => idxA E (ρ i) fun E i => optB (ixV P t (ρ x) i) fun v => K E v H
  | .lookup t x i ok => lkA P E H t (ρ x) (ρ i) ok fun E v => K E v H
  | .mapUpdate t m k x => muA P b E H t (ρ m) (ρ k) (ρ x) K
  | .insert t m k x => muA P b E H t (ρ m) (ρ k) (ρ x) K
  | .range t x => optHB (rgV P b H t (ρ x)) (K E)
  | .next it false => match nxV b H (ρ it) with | some outs => outs.all fun o => K E o.1 o.2 | none => false
  | .entry it => optB (enV H (ρ it)) fun v => K E v H
  | .typeAssert x _ t true => zOk P t && optB (taV P (ρ x) t) fun v => K E v H
  | .extract x i => optB (exV (ρ x) i) fun v => K E v H
  | .call { callee := .builtin bi, args, argTypes } => bltA P b E H bi argTypes.toList (args.toList.map ρ) K
  | .call { callee := .value f, args, .. } => match ρ f with
    | .fn g cap => okCap cap && fnT P g && call E b g (callArgs (args.toList.map ρ) cap) H (callKA K KP)
    | _ => false
  | .defer { callee := .value f, args, .. } => match ρ f with
    | .fn g cap => okCap cap && !hdT cap && args.isEmpty && KD E g cap
    | _ => false
  | .panic x => match ρ x with | .ifc t v => KP E (.ifc t v) H | _ => false
  | _ => false

section
variable {P : Program} {θ : List V} {ι : List Nat} {b b' : Nat} {E : Env} {H H' : Heap}

theorem KO.of_RA (hh : SbH θ ι b b' H H') {conc : Option V} {K : Env → V → Heap → Bool} (h : RA θ ι conc fun E v => K E v H) {K' : V → Heap → Prop} (hk : ∀ v H, KO θ ι b b' K v H → K' v H) : optK conc fun v => K' v H' := by
  obtain ⟨θ2, E2, u, u', h1, h2, rfl, h4, h5⟩ := h
  exact hk _ _ ⟨θ2, E2, ι, u, H, h1, List.prefix_refl _, h2, hh.grow h1, h4, h5⟩

theorem KO.of_val (he : EnvOk θ E) (hh : SbH θ ι b b' H H') {o o' : Option V} (ho : ∀ u, o = some u → ∃ u', o' = some u' ∧ Sb θ ι u u') {K : Env → V → Heap → Bool} (h : optB o (fun v => K E v H) = true) {K' : V → Heap → Prop} (hk : ∀ v H, KO θ ι b b' K v H → K' v H) : optK o' fun v => K' v H' := by
  cases o with
  | none => cases h
  | some u =>
    obtain ⟨u', rfl, h2⟩ := ho u rfl
    exact hk _ _ ⟨θ, E, ι, u, H, .refl _, List.prefix_refl _, he, hh, h2, h⟩

theorem KO.of_eff (he : EnvOk θ E) {o o' : Option (V × Heap)} (ho : ∀ u H2, o = some (u, H2) → ∃ u' H2', o' = some (u', H2') ∧ EffS θ ι b b' H2 H2' u u') {K : Env → V → Heap → Bool} (h : optHB o (K E) = true) {K' : V → Heap → Prop} (hk : ∀ v H, KO θ ι b b' K v H → K' v H) : optKH o' K' := by
  cases o with
  | none => cases h
  | some p =>
    obtain ⟨u, H2⟩ := p
    obtain ⟨u', H2', rfl, ι2, h1, h2, h3⟩ := ho u H2 rfl
    exact hk _ _ ⟨θ, E, ι2, u, H2, .refl _, h1, he, h2, h3, h⟩

theorem KO.of_RH {conc : Option Heap} {K : Env → V → Heap → Bool} (h : RH θ ι b b' conc K) {K' : V → Heap → Prop} (hk : ∀ v H, KO θ ι b b' K v H → K' v H) : optH conc K' := by
  obtain ⟨E2, H2, H2', h1, rfl, h3, h4⟩ := h
  exact hk _ _ ⟨θ, E2, ι, _, H2, .refl _, List.prefix_refl _, h1, h3, .tup _ _ .nil, h4⟩

theorem SbL.map_op {ρ ρ' : Operand → V} (h : ∀ x, Sb θ ι (ρ x) (ρ' x)) : ∀ l : List Operand, SbL θ ι (l.map ρ) (l.map ρ')
  | [] => .nil
  | x :: l => .cons _ _ _ _ (h x) (SbL.map_op h l)
theorem PSb.map_op {ρ ρ' : Operand → V} (h : ∀ x, Sb θ ι (ρ x) (ρ' x)) : ∀ l : List (Nat × Operand), PSb θ ι (l.map fun p => (p.1, ρ p.2)) (l.map fun p => (p.1, ρ' p.2))
  | [] => .nil
  | (_, x) :: l => .cons _ _ _ _ _ (h x) (PSb.map_op h l)

theorem smallV_ok {ρ ρ' : Operand → V} (h : ∀ x, Sb θ ι (ρ x) (ρ' x)) {o : Option Operand} (hs : smallV (o.map ρ) = true) : o.map ρ' = o.map ρ := by
  cases o with
  | none => rfl
  | some x => simp only [Option.map_some, smallV] at hs ⊢; rw [known_sb (h x) hs]

theorem cl_sb (h : SbH θ ι b b' H H') {t : TypeId} (hz : zOk P (elT P t) = true) {x x' : V} (hx : Sb θ ι x x') {H2 : Heap} (hu : clV P b H t x = some H2) : ∃ H2', clV P b' H' t x' = some H2' ∧ SbH θ ι b b' H2 H2' := by
  unfold clV at hu ⊢
  split at hu
  · rename_i e sz by_ q1
    have hz2 : zOk P e = true := by simpa [elT, q1] using hz
    split at hu
    · rename_i zs q2
      have hzs := zs_sb (θ := θ) (ι := ι) hz2 q2
      try simp only [q1, q2]
      split at hu
      · cases hx; cases hu; exact ⟨H', rfl, h⟩
      · cases hx; cases hu; exact ⟨H', rfl, h⟩
      · rename_i i g o n _ _ _
        cases hx with
        | hsl _ id _ _ _ _ _ _ hi =>
        simp only
        split at hu
        · rename_i hn; cases hu; exact ⟨H', by rw [if_pos hn], h⟩
        · rename_i hn
          try rw [if_neg hn]
          split at hu
          · rename_i g' cs hg
            obtain ⟨cs', h1, h2⟩ := h.cells hi hg
            split at hu
            · rename_i hq
              cases hu
              refine ⟨H'.set id (.cells g (wr cs' o (List.replicate n zs).flatten)), ?_, h.set hi (SbO.cells (h2.wr (hzs.rep n) _))⟩
              simp only [h1]
              rw [if_pos ⟨hq.1, hq.2.1, by rw [h2.length]; exact hq.2.2.1, h.base i id hi hq.2.2.2⟩]
            · cases hu
          · cases hu
      · cases hu
    · cases hu
  · cases hu

theorem bltA_ok (he : EnvOk θ E) (hh : SbH θ ι b b' H H') {bi : Builtin} {ts : List TypeId} {args args' : List V} (ha : SbL θ ι args args') {K : Env → V → Heap → Bool} (hK : bltA P b E H bi ts args K = true) {K' : V → Heap → Prop} (hk : ∀ v H, KO θ ι b b' K v H → K' v H) :
    bltW P b' H' bi ts args' K' := by
  unfold bltA at hK
  split at hK
  · cases ha with
    | cons _ s' _ _ h1 ha =>
    cases ha with
    | cons _ x' _ _ h2 ha =>
    cases ha
    simp only [Bool.and_eq_true] at hK
    exact KO.of_eff he (fun u H2 q => ap_sb hh hK.1 h1 h2 q) hK.2 hk
  · rename_i t x
    cases ha with
    | cons _ x' _ _ h1 ha =>
    cases ha
    show optK (lnV P H' t x') fun v => K' v H'
    split at hK
    · rename_i m hm
      obtain ⟨s, rfl, hs⟩ := strU_ok he h1 hm
      simp only [Bool.and_eq_true] at hK
      simp only [lnV, hK.1, if_true]
      simp only [freshI, Bool.and_eq_true] at hK
      obtain ⟨f1, f2⟩ := fresh_ok (ι := ι) he (k := .i64) (lo := 0) (hi := (m : Int)) (x := (s.size : Int)) (by omega) (by omega)
      exact hk _ _ ⟨_, _, ι, _, H, Grow.int θ .i64 s.size, List.prefix_refl _, f1, hh.grow (Grow.int θ .i64 s.size), f2, hK.2.2⟩
    · cases hq : lnV P H t x with
      | none => rw [hq] at hK; cases hK
      | some u =>
        rw [hq] at hK
        simp only [optB, Bool.and_eq_true] at hK
        obtain ⟨u', q1, q2⟩ := ln_sb hh h1 hq hK.1
        rw [q1]
        exact hk _ _ ⟨θ, E, ι, u, H, .refl _, List.prefix_refl _, he, hh, q2, hK.2⟩
  · rename_i t x
    cases ha with
    | cons _ x' _ _ h1 ha =>
    cases ha
    show optK (cpV P t x') fun v => K' v H'
    cases hq : cpV P t x with
    | none => rw [hq] at hK; cases hK
    | some u =>
      rw [hq] at hK
      simp only [optB, Bool.and_eq_true] at hK
      obtain ⟨u', q1, q2⟩ := cp_sb h1 hq hK.1
      rw [q1]
      exact hk _ _ ⟨θ, E, ι, u, H, .refl _, List.prefix_refl _, he, hh, q2, hK.2⟩
  · have := KO.of_RA hh (mmA_ok he ha hK) hk
    unfold bltW; exact this
  · have := KO.of_RA hh (mmA_ok he ha hK) hk
    unfold bltW; exact this
  · cases ha with
    | cons _ m' _ _ h1 ha =>
    cases ha with
    | cons _ k' _ _ h2 ha =>
    cases ha
    exact KO.of_RH (dlA_ok he hh h1 h2 hK) hk
  · rename_i t x
    cases ha with
    | cons _ x' _ _ h1 ha =>
    cases ha
    simp only [Bool.and_eq_true] at hK
    show optH (clV P b' H' t x') K'
    cases hq : clV P b H t x with
    | none => rw [hq] at hK; cases hK.2
    | some H2 =>
      rw [hq] at hK
      obtain ⟨H2', q1, q2⟩ := cl_sb hh hK.1 h1 hq
      rw [q1]
      exact hk _ _ ⟨θ, E, ι, _, H2, .refl _, List.prefix_refl _, he, q2, .tup _ _ .nil, hK.2⟩
  · cases hK

theorem opA_ok {call : CallA} (hc : CallOkA P call) (he : EnvOk θ E) (hh : SbH θ ι b b' H H') {o : Oper} {ρ ρ' : Operand → V} (hρ : ∀ x, Sb θ ι (ρ x) (ρ' x))
    {K : Env → V → Heap → Bool} {KD : Env → FuncId → List V → Bool} {KP : Env → V → Heap → Bool} (h : opA P call b E o ρ H K KD KP = true)
    {K' : V → Heap → Prop} {KD' : FuncId → List V → Prop} {KP' : V → Heap → Prop} (hk : ∀ v H, KO θ ι b b' K v H → K' v H) (hkd : ∀ f c c', SbL θ ι c c' → KD E f c = true → KD' f c') (hkp : ∀ v H, KO θ ι b b' KP v H → KP' v H) : opW P b' o ρ' H' K' KD' KP' := by
  have same : ∀ {v v' : V}, Sb θ ι v v' → K E v H = true → K' v' H' := fun hv q => hk _ _ ⟨θ, E, ι, _, H, .refl _, List.prefix_refl _, he, hh, hv, q⟩
  obtain ⟨dst, op, type, pos, after, guard⟩ := o
  have no : ∀ {p : Prop}, false = true → p := fun h => by cases h
  cases op <;> simp only [opA] at h <;> simp only [opW]
  case move x => exact same (hρ x) h
  case assign x => exact same (hρ x) h
  case pick c x y =>
    obtain ⟨p, E2, q1, q2, q3⟩ := boolA_ok he (hρ c) h
    simp only [q1]
    cases p with
    | true => exact hk _ _ ⟨θ, E2, ι, _, H, .refl _, List.prefix_refl _, q2, hh, hρ x, by simpa using q3⟩
    | false => exact hk _ _ ⟨θ, E2, ι, _, H, .refl _, List.prefix_refl _, q2, hh, hρ y, by simpa using q3⟩
  case alloc t =>
    simp only [Bool.and_eq_true] at h
    exact KO.of_eff he (fun u H2 q => al_sb hh h.1 q) h.2 hk
  case box t x => exact KO.of_eff he (fun u H2 q => bx_sb hh (hρ x) q) h hk
  case build t ps =>
    simp only [Bool.and_eq_true] at h
    exact KO.of_val he hh (fun u q => bd_sb h.1 (PSb.map_op hρ _) q) h.2 hk
  case buildSlice t n ps =>
    simp only [Bool.and_eq_true] at h
    exact KO.of_val he hh (fun u q => bs_sb h.1 (PSb.map_op hρ _) q) h.2 hk
  case load t a => exact KO.of_val he hh (fun u q => ld_sb hh (hρ a) q) h hk
  case store t a x =>
    cases hq : stoV P b H t (ρ a) (ρ x) with
    | none => rw [hq] at h; cases h
    | some H2 =>
      rw [hq] at h
      obtain ⟨H2', q1, q2⟩ := sto_sb hh (hρ a) (hρ x) hq
      rw [q1]
      exact hk _ _ ⟨θ, E, ι, _, H2, .refl _, List.prefix_refl _, he, q2, .tup _ _ .nil, h⟩
  case nilCheck x =>
    have hx := hρ x
    split at h
    · rename_i q
      rw [q] at hx
      generalize ρ' x = w at hx
      cases hx with
      | ptr _ id _ _ hi => exact same (.ptr _ _ _ _ hi) h
    · rename_i q
      rw [q] at hx
      generalize ρ' x = w at hx
      cases hx with
      | fptr _ cs' hl => exact same (.fptr _ _ hl) h
    · cases h
  case binOp op t x y yt => exact KO.of_RA hh (binA_ok he (hρ x) (hρ y) h) hk
  case unOp op t x => exact KO.of_RA hh (unA_ok he (hρ x) h) hk
  case convert s d x =>
    have := cvA_ok he (hρ x) h
    unfold cvW
    obtain ⟨θ2, E2, u, u', h1, h2, h3, h4, h5⟩ := this
    rw [h3]
    exact hk _ _ ⟨θ2, E2, ι, u, H, h1, List.prefix_refl _, h2, hh.grow h1, h4, h5⟩
  case makeInterface t x => exact KO.of_val he hh (fun u q => mi_sb (hρ x) q) h hk
  case makeFunc fn first cap =>
    cases fn <;> simp only at h ⊢ <;> first | (exact no h) | skip
    split at h
    · rename_i q
      rw [if_pos q]
      simp only [Bool.and_eq_true, Bool.not_eq_true'] at h
      exact ⟨by rw [hdT_sb h.1.1 (SbL.map_op hρ _)]; exact h.1.2, same (.fn _ _ _ (SbL.map_op hρ _)) h.2⟩
    · rename_i q
      rw [if_neg q]
      exact same (.fn _ _ _ (.cons _ _ _ _ (.tup _ _ (SbL.map_op hρ _)) (SbL.map_op hρ _))) h
  case makeMap t r =>
    cases r <;> simp only at h ⊢
    · obtain ⟨ι2, h1, h2, h3⟩ := mmp_sb hh
      exact hk _ _ ⟨θ, E, ι2, _, _, .refl _, h1, he, h2, h3, h⟩
    · exact no h
  case makeSlice t l c =>
    simp only [Bool.and_eq_true] at h
    obtain ⟨⟨⟨h1, h2⟩, h3⟩, h4⟩ := h
    rw [known_sb (hρ l) h2, known_sb (hρ c) h3]
    exact KO.of_eff he (fun u H2 q => mk_sb hh h1 q) h4 hk
  case slice t x lo hi mx =>
    simp only [Bool.and_eq_true] at h
    obtain ⟨⟨⟨h1, h2⟩, h3⟩, h4⟩ := h
    rw [smallV_ok hρ h1, smallV_ok hρ h2, smallV_ok hρ h3]
    exact KO.of_val he hh (fun u q => sl_sb hh (hρ x) q) h4 hk
  case fieldAddr t x i => exact KO.of_val he hh (fun u q => fa_sb (hρ x) q) h hk
  case field t x i => exact KO.of_val he hh (fun u q => fd_sb (hρ x) q) h hk
  case indexAddr t x i =>
    obtain ⟨E2, k, n, q1, q2, q3, q4⟩ := idxA_ok he (hρ i) h
    rw [q2]
    exact KO.of_val q1 hh (fun u q => ia_sb (hρ x) q) q4 hk
  case index t x i =>
    obtain ⟨E2, k, n, q1, q2, q3, q4⟩ := idxA_ok he (hρ i) h
    rw [q2]
    exact KO.of_val q1 hh (fun u q => ix_sb (hρ x) q) q4 hk
  case lookup t x i ok => exact KO.of_RA hh (lkA_ok he hh (hρ x) (hρ i) h) hk
  case mapUpdate t m k x => exact KO.of_RH (muA_ok he hh (hρ m) (hρ k) (hρ x) h) hk
  case insert t m k x => exact KO.of_RH (muA_ok he hh (hρ m) (hρ k) (hρ x) h) hk
  case range t x => exact KO.of_eff he (fun u H2 q => rg_sb hh (hρ x) q) h hk
  case next it s =>
    cases s <;> simp only at h ⊢
    · split at h
      · rename_i outs q
        obtain ⟨outs', q1, q2⟩ := nx_sb hh (hρ it) q
        simp only [q1]
        intro o' ho'
        obtain ⟨o, ho, r1, r2⟩ := q2 o' ho'
        exact hk _ _ ⟨θ, E, ι, _, _, .refl _, List.prefix_refl _, he, r2, r1, List.all_eq_true.1 h o ho⟩
      · cases h
    · exact no h
  case entry it => exact KO.of_val he hh (fun u q => en_sb hh (hρ it) q) h hk
  case typeAssert x s t ok =>
    cases ok <;> simp only at h ⊢
    · exact no h
    · simp only [Bool.and_eq_true] at h
      exact KO.of_val he hh (fun u q => ta_sb h.1 (hρ x) q) h.2 hk
  case extract x i => exact KO.of_val he hh (fun u q => ex_sb (hρ x) q) h hk
  case call c =>
    obtain ⟨callee, args, ts⟩ := c
    cases callee <;> simp only at h ⊢
    case builtin => exact bltA_ok he hh (SbL.map_op hρ _) h hk
    case value f =>
      have hf := hρ f
      split at h
      · rename_i g cap q
        rw [q] at hf
        simp only [Bool.and_eq_true] at h
        generalize ρ' f = w at hf
        cases hf with
        | fn _ _ cap' hcap =>
        simp only [callW, extV_no h.1.2]
        refine ⟨h.1.2, (hc _ _ _ _ _ _ h.2 θ ι b' _ H' he hh (callArgs_sb h.1.1 (SbL.map_op hρ _) hcap)).mono ?_⟩
        rintro r' H2' ⟨θ2, E2, ι2, r, H2, p1, p2, p3, p4, p5, p6⟩
        cases r <;> cases r' <;> simp only [ResS] at p5
        · exact hk _ _ ⟨θ2, E2, ι2, _, H2, p1, p2, p3, p4, p5, p6⟩
        · exact hkp _ _ ⟨θ2, E2, ι2, _, H2, p1, p2, p3, p4, p5, p6⟩
      · cases h
    case invoke => exact no h
  case defer c =>
    obtain ⟨callee, args, ts⟩ := c
    cases callee <;> simp only at h ⊢
    case value f =>
      have hf := hρ f
      split at h
      · rename_i g cap q
        rw [q] at hf
        simp only [Bool.and_eq_true, Bool.not_eq_true'] at h
        generalize ρ' f = w at hf
        cases hf with
        | fn _ _ cap' hcap => exact ⟨by rw [hdT_sb h.1.1.1 hcap]; exact h.1.1.2, h.1.2, hkd _ _ _ hcap h.2⟩
      · cases h
    all_goals exact no h
  case panic x =>
    have hx := hρ x
    split at h
    · rename_i q
      rw [q] at hx
      generalize ρ' x = w at hx
      cases hx with
      | ifc _ _ v' hv => exact hkp _ _ ⟨θ, E, ι, _, H, .refl _, List.prefix_refl _, he, hh, .ifc _ _ _ hv, h⟩
    · cases h
  all_goals exact no h

end
end Go.Ns

/- Ns, part Si: code with unknowns. -/
namespace Go.Ns

def ρA (E : Env) (σ : Nat → V) : Operand → V
  | .tmp t => nrm E (σ t)
  | .const v => if plainV (vconst v) = true then vconst v else .undef
  | .global _ => .undef
  | .func f => .fn f []

def wantA (E : Env) (ops : Array Oper) (σ : Nat → V) (g : Option (Nat × Bool)) (K : Env → Bool → Bool) : Bool :=
  match g with
  | none => K E true
  | some (j, want) => match (ops[j]?).bind (·.dst) with
    | some d => match nrm E (σ d) with
      | .tup [] => K E false
      | v => boolA E v fun E p => K E (p == want)
    | none => K E false

def opsA (P : Program) (call : CallA) (b : Nat) (ops : Array Oper) (K : Env → S → Bool) (KP : Env → V → S → Bool) : List Oper → Env → S → Bool
  | [], E, s => K E s
  | o :: rest, E, s => wantA E ops s.σ o.guard fun E w =>
    if w = true then opA P call b E o (ρA E s.σ) s.H (fun E v H => opsA P call b ops K KP rest E ⟨upd s.σ o.dst v, H, s.D⟩) (fun E f cap => opsA P call b ops K KP rest E ⟨upd s.σ o.dst (.tup []), s.H, (f, cap) :: s.D⟩) (fun E v H => KP E v ⟨s.σ, H, s.D⟩)
    else opsA P call b ops K KP rest E ⟨upd s.σ o.dst (.tup []), s.H, s.D⟩

inductive DsR (θ : List V) (ι : List Nat) : Ds → Ds → Prop
  | nil : DsR θ ι [] []
  | cons (f : FuncId) (c c' : List V) (D D' : Ds) : SbL θ ι c c' → DsR θ ι D D' → DsR θ ι ((f, c) :: D) ((f, c') :: D')

theorem DsR.mono {θ θ' : List V} {ι ι' : List Nat} (h : θ <+: θ') (g : ι <+: ι') {D D' : Ds} (q : DsR θ ι D D') : DsR θ' ι' D D' := by
  induction q with
  | nil => exact .nil
  | cons f c c' D D' h1 _ ih => exact .cons _ _ _ _ _ (h1.mono h g) ih

structure StS (θ : List V) (ι : List Nat) (b b' : Nat) (E : Env) (s s' : S) : Prop where
  env : EnvOk θ E
  tm : ∀ t, Sb θ ι (s.σ t) (s'.σ t)
  hp : SbH θ ι b b' s.H s'.H
  ds : DsR θ ι s.D s'.D

def KS (θ : List V) (ι : List Nat) (b b' : Nat) (K : Env → S → Bool) (s' : S) : Prop :=
  ∃ θ2 E2 ι2 s, Grow θ θ2 ∧ ι <+: ι2 ∧ StS θ2 ι2 b b' E2 s s' ∧ K E2 s = true
def KSP (θ : List V) (ι : List Nat) (b b' : Nat) (K : Env → V → S → Bool) (v' : V) (s' : S) : Prop :=
  ∃ θ2 E2 ι2 v s, Grow θ θ2 ∧ ι <+: ι2 ∧ StS θ2 ι2 b b' E2 s s' ∧ Sb θ2 ι2 v v' ∧ K E2 v s = true

def ExS (θ : List V) (ι : List Nat) : Ex → Ex → Prop
  | .normal, .normal => True
  | .exit i, .exit j => j = i
  | .ret, .ret => True
  | .pan v, .pan v' => Sb θ ι v v'
  | _, _ => False

def KX (θ : List V) (ι : List Nat) (b b' : Nat) (K : Env → Ex → S → Bool) (ex' : Ex) (s' : S) : Prop :=
  ∃ θ2 E2 ι2 ex s, Grow θ θ2 ∧ ι <+: ι2 ∧ StS θ2 ι2 b b' E2 s s' ∧ ExS θ2 ι2 ex ex' ∧ K E2 ex s = true

section
variable {P : Program} {θ : List V} {ι : List Nat} {b b' : Nat} {E : Env}

theorem ρA_ok {s s' : S} (h : StS θ ι b b' E s s') (x : Operand) : Sb θ ι (ρA E s.σ x) (ρV s'.σ x) := by
  cases x with
  | tmp t => exact nrm_ok h.env (h.tm t)
  | const v =>
    simp only [ρA, ρV]
    split
    · rename_i q; exact Sb.plain q
    · exact .undef _
  | global g => exact .undef _
  | func f => exact .fn f [] [] .nil

theorem upd_sb {σ σ' : Nat → V} (h : ∀ t, Sb θ ι (σ t) (σ' t)) (d : Option Tmp) {v v' : V} (hv : Sb θ ι v v') : ∀ t, Sb θ ι (upd σ d v t) (upd σ' d v' t) := by
  intro t
  cases d with
  | none => exact h t
  | some d => simp only [upd]; split <;> first | exact hv | exact h t

theorem wantA_ok {s s' : S} (h : StS θ ι b b' E s s') {ops : Array Oper} {g : Option (Nat × Bool)} {K : Env → Bool → Bool} (hK : wantA E ops s.σ g K = true) : ∃ w E2, wantV ops s'.σ g = some w ∧ EnvOk θ E2 ∧ K E2 w = true := by
  unfold wantA at hK
  unfold wantV
  split at hK
  · exact ⟨true, E, rfl, h.env, hK⟩
  · rename_i j want
    simp only
    split at hK
    · rename_i d hd
      have ht := nrm_ok h.env (h.tm d)
      split at hK
      · rename_i q
        have e : s'.σ d = .tup [] := by
          rw [q] at ht
          generalize s'.σ d = w at ht
          cases ht with
          | tup _ cs' hl => cases hl; rfl
        exact ⟨false, E, by rw [hd]; simp only [e], h.env, hK⟩
      · obtain ⟨p, E2, q1, q2, q3⟩ := boolA_ok h.env ht hK
        exact ⟨_, E2, by rw [hd]; simp only [q1], q2, q3⟩
    · rename_i hd
      exact ⟨false, E, by rw [hd], h.env, hK⟩

theorem opsA_ok {call : CallA} (hc : CallOkA P call) {N : Nat} {ops : Array Oper} {K : Env → S → Bool} {KP : Env → V → S → Bool} {K' : S → Prop} {KP' : V → S → Prop} :
    ∀ (l : List Oper) {θ : List V} {ι : List Nat} {E : Env} (s s' : S), (∀ s', KS θ ι b b' K s' → K' s') → (∀ v s', KSP θ ι b b' KP v s' → KP' v s') → (∀ o ∈ l, dstOk N o.dst) → StS θ ι b b' E s s' → opsA P call b ops K KP l E s = true → opsW P b' N ops K' KP' l s'
  | [], θ, ι, E, s, s', hk, _, _, hs, h => hk _ ⟨θ, E, ι, s, .refl _, List.prefix_refl _, hs, h⟩
  | o :: rest, θ, ι, E, s, s', hk, hkp, hd, hs, h => by
    have hrest : ∀ o ∈ rest, dstOk N o.dst := fun o ho => hd o (List.mem_cons_of_mem _ ho)
    simp only [opsA] at h
    simp only [opsW]
    refine ⟨hd o List.mem_cons_self, ?_⟩
    obtain ⟨w, E2, h1, h2, h3⟩ := wantA_ok hs h
    have hs2 : StS θ ι b b' E2 s s' := ⟨h2, hs.tm, hs.hp, hs.ds⟩
    rw [h1]
    cases w with
    | true =>
      simp only [if_true] at h3
      refine opA_ok hc h2 hs.hp (fun x => ρA_ok hs2 x) h3 ?_ ?_ ?_
      · rintro v' H2' ⟨θ2, E3, ι2, v, H2, g1, g2, g3, g4, g5, g6⟩
        exact opsA_ok hc rest ⟨upd s.σ o.dst v, H2, s.D⟩ ⟨upd s'.σ o.dst v', H2', s'.D⟩
          (fun s3 ⟨θ3, E3, ι3, s4, a1, a2, a3⟩ => hk s3 ⟨θ3, E3, ι3, s4, g1.trans a1, g2.trans a2, a3⟩)
          (fun v3 s3 ⟨θ3, E3, ι3, v4, s4, a1, a2, a3⟩ => hkp v3 s3 ⟨θ3, E3, ι3, v4, s4, g1.trans a1, g2.trans a2, a3⟩)
          hrest ⟨g3, upd_sb (fun t => (hs.tm t).mono g1.pre g2) o.dst g5, g4, hs.ds.mono g1.pre g2⟩ g6
      · intro f c c' hcap hq
        exact opsA_ok hc rest ⟨upd s.σ o.dst (.tup []), s.H, (f, c) :: s.D⟩ ⟨upd s'.σ o.dst (.tup []), s'.H, (f, c') :: s'.D⟩ hk hkp hrest ⟨h2, upd_sb hs.tm o.dst (.tup _ _ .nil), hs.hp, .cons _ _ _ _ _ hcap hs.ds⟩ hq
      · rintro v' H2' ⟨θ2, E3, ι2, v, H2, g1, g2, g3, g4, g5, g6⟩
        exact hkp _ _ ⟨θ2, E3, ι2, v, ⟨s.σ, H2, s.D⟩, g1, g2, ⟨g3, fun t => (hs.tm t).mono g1.pre g2, g4, hs.ds.mono g1.pre g2⟩, g5, g6⟩
    | false =>
      simp only [Bool.false_eq_true, if_false] at h3
      exact opsA_ok hc rest ⟨upd s.σ o.dst (.tup []), s.H, s.D⟩ ⟨upd s'.σ o.dst (.tup []), s'.H, s'.D⟩ hk hkp hrest ⟨h2, upd_sb hs.tm o.dst (.tup _ _ .nil), hs.hp, hs.ds⟩ h3

end
end Go.Ns

/- Ns, part Sj: what is handed back is frozen, with unknowns. -/
namespace Go.Ns

mutual
def belowA (n : Nat) : V → Bool
  | .undef => false
  | .ptr id _ _ => decide (id < n)
  | .hsl id _ _ _ _ _ _ => decide (id < n)
  | .map id => decide (id < n)
  | .bool _ | .int .. | .flt .. | .str _ | .nilp | .nils | .nilm | .nilf | .nili => true
  | .fptr cs => belowAs n cs
  | .fsl _ _ cs => belowAs n cs
  | .fn _ cs => belowAs n cs
  | .ifc _ v => belowA n v
  | .agg cs => belowAs n cs
  | .tup cs => belowAs n cs
def belowAs (n : Nat) : List V → Bool
  | [] => true
  | v :: vs => belowA n v && belowAs n vs
end

def frzA (n0 : Nat) (H : Heap) : Nat → V → Option V
  | 0, _ => none
  | d + 1, v => if belowA n0 v = true then some v else match v with
    | .hsl id g o n sz _ _ => match H.get id with
      | some (.cells g' cs) => if n0 ≤ id ∧ g' = g ∧ o + n * sz ≤ cs.length then ((rd cs o (n * sz)).mapM (frzA n0 H d)).bind fun l => if l.all V.cell = true then some (.fsl false n l) else none else none
      | _ => none
    | .agg cs => (cs.mapM (frzA n0 H d)).bind fun l => if l.all V.cell = true then some (.agg l) else none
    | .tup cs => (cs.mapM (frzA n0 H d)).map .tup
    | _ => none

section
variable {θ θ2 : List V} {ι ι2 : List Nat} {b b' : Nat} {H H' H2 H2' : Heap}

/-- What is below stands for the same in the smaller numbering, and is below there. -/
structure Fr (θ θ2 : List V) (ι ι2 : List Nat) (n0' : Nat) : Prop where
  pre : ι <+: ι2
  lt : ∀ (i id : Nat), ι[i]? = some id → id < n0'
  hi : ∀ (i id : Nat), ι2[i]? = some id → ι.length ≤ i → n0' ≤ id
  opq : ∀ (i : Nat) (v : V), θ2[i]? = some v → belowV n0' v = true

theorem Fr.idx {n0' : Nat} (h : Fr θ θ2 ι ι2 n0') {i id : Nat} (hi : ι2[i]? = some id) (hl : i < ι.length) : ι[i]? = some id := by
  obtain ⟨t, rfl⟩ := h.pre
  rw [List.getElem?_append_left hl] at hi
  exact hi

mutual
theorem below_sb {n0' : Nat} (h : Fr θ θ2 ι ι2 n0') : ∀ {v v' : V}, Sb θ2 ι2 v v' → belowA ι.length v = true → Sb θ2 ι v v' ∧ belowV n0' v' = true
  | _, _, .undef v, q => by simp [belowA] at q
  | _, _, .bool b, _ => ⟨.bool b, rfl⟩
  | _, _, .int k n q1, _ => ⟨.int k n q1, rfl⟩
  | _, _, .sym k n i c k' x q1 q2, _ => ⟨.sym k n i c k' x q1 q2, rfl⟩
  | _, _, .str s, _ => ⟨.str s, rfl⟩
  | _, _, .bsym i b q, _ => ⟨.bsym i b q, rfl⟩
  | _, _, .opq i v q1 q2, _ => ⟨.opq i v q1 q2, h.opq i v q1⟩
  | _, _, .nilp, _ => ⟨.nilp, rfl⟩
  | _, _, .ptr i id a o q, p => by
    have q' := h.idx q (by simpa [belowA] using p)
    exact ⟨.ptr i id a o q', by simp only [belowV]; exact decide_eq_true (h.lt i id q')⟩
  | _, _, .fptr cs cs' q, p => by
    obtain ⟨h1, h2⟩ := belows_sb h q (by simpa [belowA] using p)
    exact ⟨.fptr _ _ h1, by simpa [belowV] using h2⟩
  | _, _, .nils, _ => ⟨.nils, rfl⟩
  | _, _, .fsl ex n cs cs' q, p => by
    obtain ⟨h1, h2⟩ := belows_sb h q (by simpa [belowA] using p)
    exact ⟨.fsl _ _ _ _ h1, by simpa [belowV] using h2⟩
  | _, _, .hsl i id a o n sz ex c q, p => by
    have q' := h.idx q (by simpa [belowA] using p)
    exact ⟨.hsl i id a o n sz ex c q', by simp only [belowV]; exact decide_eq_true (h.lt i id q')⟩
  | _, _, .nilm, _ => ⟨.nilm, rfl⟩
  | _, _, .map i id q, p => by
    have q' := h.idx q (by simpa [belowA] using p)
    exact ⟨.map i id q', by simp only [belowV]; exact decide_eq_true (h.lt i id q')⟩
  | _, _, .nilf, _ => ⟨.nilf, rfl⟩
  | _, _, .fn f cs cs' q, p => by
    obtain ⟨h1, h2⟩ := belows_sb h q (by simpa [belowA] using p)
    exact ⟨.fn _ _ _ h1, by simpa [belowV] using h2⟩
  | _, _, .nili, _ => ⟨.nili, rfl⟩
  | _, _, .ifc t v v' q, p => by
    obtain ⟨h1, h2⟩ := below_sb h q (by simpa [belowA] using p)
    exact ⟨.ifc _ _ _ h1, by simpa [belowV] using h2⟩
  | _, _, .agg cs cs' q, p => by
    obtain ⟨h1, h2⟩ := belows_sb h q (by simpa [belowA] using p)
    exact ⟨.agg _ _ h1, by simpa [belowV] using h2⟩
  | _, _, .tup cs cs' q, p => by
    obtain ⟨h1, h2⟩ := belows_sb h q (by simpa [belowA] using p)
    exact ⟨.tup _ _ h1, by simpa [belowV] using h2⟩
theorem belows_sb {n0' : Nat} (h : Fr θ θ2 ι ι2 n0') : ∀ {vs vs' : List V}, SbL θ2 ι2 vs vs' → belowAs ι.length vs = true → SbL θ2 ι vs vs' ∧ belowVs n0' vs' = true
  | _, _, .nil, _ => ⟨.nil, rfl⟩
  | _, _, .cons v v' vs vs' q1 q2, p => by
    have p' : belowA ι.length v = true ∧ belowAs ι.length vs = true := by simpa [belowAs] using p
    obtain ⟨h1, h2⟩ := below_sb h q1 p'.1
    obtain ⟨h3, h4⟩ := belows_sb h q2 p'.2
    exact ⟨.cons _ _ _ _ h1 h3, by simp only [belowVs, h2, h4, Bool.and_self]⟩
end

theorem mapM_sb {n0' : Nat} {f f' : V → Option V} (hf : ∀ {v v' u : V}, Sb θ2 ι2 v v' → f v = some u → (∃ u', f' v' = some u' ∧ Sb θ2 ι u u') ∧ (belowA ι.length v = false → belowV n0' v' = false)) :
    ∀ {vs vs' us : List V}, SbL θ2 ι2 vs vs' → vs.mapM f = some us → (∃ us', vs'.mapM f' = some us' ∧ SbL θ2 ι us us') ∧ (belowAs ι.length vs = false → belowVs n0' vs' = false)
  | _, _, us, .nil, h => by simp at h; subst h; exact ⟨⟨[], by simp, .nil⟩, fun q => by simp [belowAs] at q⟩
  | _, _, us, .cons v v' vs vs' h1 h2, h => by
    simp only [List.mapM_cons, Option.bind_eq_bind, Option.bind_eq_some_iff, Option.pure_def, Option.some.injEq] at h
    obtain ⟨u, hu, us2, hus, rfl⟩ := h
    obtain ⟨⟨u', q1, q2⟩, q3⟩ := hf h1 hu
    obtain ⟨⟨us', p1, p2⟩, p3⟩ := mapM_sb hf h2 hus
    refine ⟨⟨u' :: us', by simp [q1, p1], .cons _ _ _ _ q2 p2⟩, fun q => ?_⟩
    simp only [belowAs, Bool.and_eq_false_iff] at q
    simp only [belowVs, Bool.and_eq_false_iff]
    exact q.imp q3 p3

theorem frz_sb (h : SbH θ2 ι2 b b' H2 H2') {n0' : Nat} (hf : Fr θ θ2 ι ι2 n0') : ∀ (d : Nat) {v v' u : V}, Sb θ2 ι2 v v' → frzA ι.length H2 d v = some u → (∃ u', frz n0' H2' d v' = some u' ∧ Sb θ2 ι u u') ∧ (belowA ι.length v = false → belowV n0' v' = false) := by
  intro d
  induction d with
  | zero => intro v v' u _ hu; simp [frzA] at hu
  | succ d ih =>
    intro v v' u hv hu
    simp only [frzA] at hu
    split at hu
    · rename_i hb
      cases hu
      obtain ⟨h1, h2⟩ := below_sb hf hv hb
      exact ⟨⟨v', by simp only [frz]; rw [if_pos h2], h1⟩, fun q => by rw [hb] at q; cases q⟩
    · rename_i hb
      simp only [Bool.not_eq_true] at hb
      split at hu
      · rename_i i g o n sz ex c
        cases hv with
        | hsl _ id _ _ _ _ _ _ hi =>
        split at hu
        · rename_i g' cs hget
          obtain ⟨cs', c1, c2⟩ := h.cells hi hget
          split at hu
          · rename_i hq
            have hid := hf.hi i id hi hq.1
            have hbf : belowV n0' (.hsl id g o n sz ex c) = false := by simp only [belowV]; exact decide_eq_false (by omega)
            simp only [Option.bind_eq_some_iff] at hu
            obtain ⟨l, hl, hu⟩ := hu
            obtain ⟨⟨l', p1, p2⟩, _⟩ := mapM_sb (n0' := n0') (fun a b => ih a b) (c2.rd o (n * sz)) hl
            split at hu
            · rename_i hall
              cases hu
              refine ⟨⟨.fsl false n l', ?_, .fsl _ _ _ _ p2⟩, fun _ => hbf⟩
              simp only [frz]
              rw [if_neg (by rw [hbf]; simp)]
              simp only [c1]
              rw [if_pos ⟨hid, hq.2.1, by rw [c2.length]; exact hq.2.2⟩, p1]
              simp only [Option.bind_some]
              rw [if_pos (p2.cell hall)]
            · cases hu
          · cases hu
        · cases hu
      · rename_i cs
        cases hv with
        | agg _ cs' hcs =>
        simp only [Option.bind_eq_some_iff] at hu
        obtain ⟨l, hl, hu⟩ := hu
        obtain ⟨⟨l', p1, p2⟩, p3⟩ := mapM_sb (n0' := n0') (fun a b => ih a b) hcs hl
        have hbf : belowV n0' (.agg cs') = false := by simp only [belowV]; exact p3 (by simpa [belowA] using hb)
        split at hu
        · rename_i hall
          cases hu
          refine ⟨⟨.agg l', ?_, .agg _ _ p2⟩, fun _ => hbf⟩
          simp only [frz]
          rw [if_neg (by rw [hbf]; simp), p1]
          simp only [Option.bind_some]
          rw [if_pos (p2.cell hall)]
        · cases hu
      · rename_i cs
        cases hv with
        | tup _ cs' hcs =>
        simp only [Option.map_eq_some_iff] at hu
        obtain ⟨l, hl, rfl⟩ := hu
        obtain ⟨⟨l', p1, p2⟩, p3⟩ := mapM_sb (n0' := n0') (fun a b => ih a b) hcs hl
        have hbf : belowV n0' (.tup cs') = false := by simp only [belowV]; exact p3 (by simpa [belowA] using hb)
        refine ⟨⟨.tup l', ?_, .tup _ _ p2⟩, fun _ => hbf⟩
        simp only [frz]
        rw [if_neg (by rw [hbf]; simp), p1]
        rfl
      · cases hu

def frzRA (n0 : Nat) (H : Heap) : Res → Option Res
  | .ret v => (frzA n0 H 8 v).map .ret
  | .pan v => (frzA n0 H 8 v).map .pan

theorem frzR_sb (h : SbH θ2 ι2 b b' H2 H2') {n0' : Nat} (hf : Fr θ θ2 ι ι2 n0') {r r' u : Res} (hr : ResS θ2 ι2 r r') (hu : frzRA ι.length H2 r = some u) : ∃ u', frzR n0' H2' r' = some u' ∧ ResS θ2 ι u u' := by
  cases r <;> cases r' <;> simp only [ResS] at hr
  · simp only [frzRA, Option.map_eq_some_iff] at hu
    obtain ⟨w, hw, rfl⟩ := hu
    obtain ⟨⟨u', q1, q2⟩, _⟩ := frz_sb h hf 8 hr hw
    exact ⟨.ret u', by simp only [frzR, q1]; rfl, q2⟩
  · simp only [frzRA, Option.map_eq_some_iff] at hu
    obtain ⟨w, hw, rfl⟩ := hu
    obtain ⟨⟨u', q1, q2⟩, _⟩ := frz_sb h hf 8 hr hw
    exact ⟨.pan u', by simp only [frzR, q1]; rfl, q2⟩

end
end Go.Ns

/- Ns, part Sl: regions of open order with unknowns: what is found, and asked again. -/
namespace Go.Ns

mutual
def noU : V → Bool
  | .undef => false
  | .fptr cs => noUs cs
  | .fsl _ _ cs => noUs cs
  | .fn _ cs => noUs cs
  | .ifc _ v => noU v
  | .agg cs => noUs cs
  | .tup cs => noUs cs
  | _ => true
def noUs : List V → Bool
  | [] => true
  | v :: vs => noU v && noUs vs
end

section
variable {θ : List V} {ι : List Nat} {b b' : Nat} {E : Env} {P : Program} {H H' : Heap}

mutual
theorem Sb.det : ∀ {v a c : V}, noU v = true → Sb θ ι v a → Sb θ ι v c → a = c
  | .undef, _, _, h, _, _ => by simp [noU] at h
  | .bool _, _, _, _, .bool _, .bool _ => rfl
  | .int _ _, _, _, _, .int _ _ _, .int _ _ _ => rfl
  | .int _ _, _, _, _, .int _ _ q, .sym _ _ _ _ _ _ q' _ => by rw [q] at q'; cases q'
  | .int _ _, _, _, _, .sym _ _ _ _ _ _ q' _, .int _ _ q => by rw [q] at q'; cases q'
  | .int _ _, _, _, _, .sym _ _ _ _ _ _ q1 q2, .sym _ _ _ _ _ _ p1 p2 => by rw [q1] at p1; cases p1; rw [q2] at p2; cases p2; rfl
  | .flt .f32 _, _, _, _, .bsym _ _ q, .bsym _ _ p => by rw [q] at p; cases p; rfl
  | .flt .f64 _, _, _, _, .opq _ _ q _, .opq _ _ p _ => by rw [q] at p; cases p; rfl
  | .str _, _, _, _, .str _, .str _ => rfl
  | .nilp, _, _, _, .nilp, .nilp => rfl
  | .ptr .., _, _, _, .ptr _ _ _ _ q, .ptr _ _ _ _ p => by rw [q] at p; cases p; rfl
  | .fptr _, _, _, h, .fptr _ _ q, .fptr _ _ p => by rw [SbL.det (by simpa [noU] using h) q p]
  | .nils, _, _, _, .nils, .nils => rfl
  | .fsl .., _, _, h, .fsl _ _ _ _ q, .fsl _ _ _ _ p => by rw [SbL.det (by simpa [noU] using h) q p]
  | .hsl .., _, _, _, .hsl _ _ _ _ _ _ _ _ q, .hsl _ _ _ _ _ _ _ _ p => by rw [q] at p; cases p; rfl
  | .nilm, _, _, _, .nilm, .nilm => rfl
  | .map _, _, _, _, .map _ _ q, .map _ _ p => by rw [q] at p; cases p; rfl
  | .nilf, _, _, _, .nilf, .nilf => rfl
  | .fn .., _, _, h, .fn _ _ _ q, .fn _ _ _ p => by rw [SbL.det (by simpa [noU] using h) q p]
  | .nili, _, _, _, .nili, .nili => rfl
  | .ifc .., _, _, h, .ifc _ _ _ q, .ifc _ _ _ p => by rw [Sb.det (by simpa [noU] using h) q p]
  | .agg _, _, _, h, .agg _ _ q, .agg _ _ p => by rw [SbL.det (by simpa [noU] using h) q p]
  | .tup _, _, _, h, .tup _ _ q, .tup _ _ p => by rw [SbL.det (by simpa [noU] using h) q p]
theorem SbL.det : ∀ {v a c : List V}, noUs v = true → SbL θ ι v a → SbL θ ι v c → a = c
  | [], _, _, _, .nil, .nil => rfl
  | _ :: _, _, _, h, .cons _ _ _ _ q1 q2, .cons _ _ _ _ p1 p2 => by
    have h' := (by simpa [noUs] using h : noU _ = true ∧ noUs _ = true)
    rw [Sb.det h'.1 q1 p1, SbL.det h'.2 q2 p2]
end

/-- An operation that only yields a value, with unknowns. -/
def valA (P : Program) (E : Env) (o : Oper) (ρ : Operand → V) (H : Heap) (K : Env → V → Bool) : Bool :=
  match o.op with
  | .move x | .assign x => K E (ρ x)
  | .pick c x y => boolA E (ρ c) fun E p => K E (if p = true then ρ x else ρ y)
  | .build t ps => zOk P t && optB (bdV P t (ps.toList.map fun p => (p.1, ρ p.2))) (K E)
  | .buildSlice t n ps => zOk P (elT P t) && optB (bsV P t n (ps.toList.map fun p => (p.1, ρ p.2))) (K E)
  | .load t a => optB (ldV P H t (ρ a)) (K E)
  | .nilCheck x => match ρ x with | .ptr id g o => K E (.ptr id g o) | .fptr cs => K E (.fptr cs) | _ => false
  | .binOp op t x y _ => binA P E op t (ρ x) (ρ y) K
  | .unOp op _ x => unA E op (ρ x) K
  | .convert s d x => cvA P E s d (ρ x) K
  | .makeInterface t x => optB (miV P t (ρ x)) (K E)
  | .makeFunc (.func f) first cap => if first.isEmpty then okCap (cap.toList.map ρ) && !hdT (cap.toList.map ρ) && K E (.fn f (cap.toList.map ρ)) else K E (.fn f (.tup (first.toList.map ρ) :: cap.toList.map ρ))
  | .slice t x lo hi mx => smallV (lo.map ρ) && smallV (hi.map ρ) && smallV (mx.map ρ) && optB (slV P H t (ρ x) (lo.map ρ) (hi.map ρ) (mx.map ρ)) (K E)
  | .fieldAddr t x i => optB (faV P t (ρ x) i) (K E)
  | .field t x i => optB (fdV P t (ρ x) i) (K E)
  | .indexAddr t x i => idxA E (ρ i) fun E i => optB (iaV P t (ρ x) i) (K E)
  | .index t x i => idxA E (ρ i) fun E i => optB (ixV P t (ρ x) i) (K E)
  | .lookup t x i ok => lkA P E H t (ρ x) (ρ i) ok K
  | .entry it => optB (enV H (ρ it)) (K E)
  | .typeAssert x _ t true => zOk P t && optB (taV P (ρ x) t) (K E)
  | .extract x i => optB (exV (ρ x) i) (K E)
  | .call { callee := .builtin .len, args, argTypes } => match argTypes.toList, args.toList.map ρ with
    | [t], [x] => optB (lnV P H t x) fun v => known v && K E v
    | _, _ => false
  | .call { callee := .builtin .min, args, .. } => mmA E false (args.toList.map ρ) K
  | .call { callee := .builtin .max, args, .. } => mmA E true (args.toList.map ρ) K
  | _ => false

theorem RA.of_val (he : EnvOk θ E) {o o' : Option V} (ho : ∀ u, o = some u → ∃ u', o' = some u' ∧ Sb θ ι u u') {K : Env → V → Bool} (h : optB o (K E) = true) : RA θ ι o' K := by
  cases o with
  | none => cases h
  | some u =>
    obtain ⟨u', rfl, h2⟩ := ho u rfl
    exact RA.same he rfl h2 h

theorem valA_ok (he : EnvOk θ E) (hh : SbH θ ι b b' H H') {o : Oper} {ρ ρ' : Operand → V} (hρ : ∀ x, Sb θ ι (ρ x) (ρ' x)) {K : Env → V → Bool} (h : valA P E o ρ H K = true) : RA θ ι (valV P o ρ' H') K := by
  obtain ⟨dst, op, type, pos, after, guard⟩ := o
  have no : ∀ {p : Prop}, false = true → p := fun h => by cases h
  cases op <;> simp only [valA] at h <;> simp only [valV]
  case move x => exact RA.same he rfl (hρ x) h
  case assign x => exact RA.same he rfl (hρ x) h
  case pick c x y =>
    obtain ⟨p, E2, q1, q2, q3⟩ := boolA_ok he (hρ c) h
    simp only [q1]
    cases p with
    | true => exact RA.same q2 rfl (hρ x) (by simpa using q3)
    | false => exact RA.same q2 rfl (hρ y) (by simpa using q3)
  case build t ps =>
    simp only [Bool.and_eq_true] at h
    exact RA.of_val he (fun u q => bd_sb h.1 (PSb.map_op hρ _) q) h.2
  case buildSlice t n ps =>
    simp only [Bool.and_eq_true] at h
    exact RA.of_val he (fun u q => bs_sb h.1 (PSb.map_op hρ _) q) h.2
  case load t a => exact RA.of_val he (fun u q => ld_sb hh (hρ a) q) h
  case nilCheck x =>
    have hx := hρ x
    split at h
    · rename_i q
      rw [q] at hx
      generalize ρ' x = w at hx
      cases hx with
      | ptr _ id _ _ hi => exact RA.same he rfl (.ptr _ _ _ _ hi) h
    · rename_i q
      rw [q] at hx
      generalize ρ' x = w at hx
      cases hx with
      | fptr _ cs' hl => exact RA.same he rfl (.fptr _ _ hl) h
    · cases h
  case binOp op t x y yt => exact binA_ok he (hρ x) (hρ y) h
  case unOp op t x => exact unA_ok he (hρ x) h
  case convert s d x =>
    obtain ⟨θ2, E2, u, u', h1, h2, h3, h4, h5⟩ := cvA_ok he (hρ x) h
    exact ⟨θ2, E2, u, u', h1, h2, by rw [h3], h4, h5⟩
  case makeInterface t x => exact RA.of_val he (fun u q => mi_sb (hρ x) q) h
  case makeFunc fn first cap =>
    cases fn <;> simp only at h ⊢ <;> first | (exact no h) | skip
    split at h
    · rename_i q
      rw [if_pos q]
      simp only [Bool.and_eq_true, Bool.not_eq_true'] at h
      exact RA.same he (by rw [if_pos (by rw [hdT_sb h.1.1 (SbL.map_op hρ _)]; exact h.1.2)]) (.fn _ _ _ (SbL.map_op hρ _)) h.2
    · rename_i q
      rw [if_neg q]
      exact RA.same he rfl (.fn _ _ _ (.cons _ _ _ _ (.tup _ _ (SbL.map_op hρ _)) (SbL.map_op hρ _))) h
  case slice t x lo hi mx =>
    simp only [Bool.and_eq_true] at h
    obtain ⟨⟨⟨h1, h2⟩, h3⟩, h4⟩ := h
    rw [smallV_ok hρ h1, smallV_ok hρ h2, smallV_ok hρ h3]
    exact RA.of_val he (fun u q => sl_sb hh (hρ x) q) h4
  case fieldAddr t x i => exact RA.of_val he (fun u q => fa_sb (hρ x) q) h
  case field t x i => exact RA.of_val he (fun u q => fd_sb (hρ x) q) h
  case indexAddr t x i =>
    obtain ⟨E2, k, n, q1, q2, q3, q4⟩ := idxA_ok he (hρ i) h
    rw [q2]
    exact RA.of_val q1 (fun u q => ia_sb (hρ x) q) q4
  case index t x i =>
    obtain ⟨E2, k, n, q1, q2, q3, q4⟩ := idxA_ok he (hρ i) h
    rw [q2]
    exact RA.of_val q1 (fun u q => ix_sb (hρ x) q) q4
  case lookup t x i ok => exact lkA_ok he hh (hρ x) (hρ i) h
  case entry it => exact RA.of_val he (fun u q => en_sb hh (hρ it) q) h
  case typeAssert x s t ok =>
    cases ok <;> simp only at h ⊢
    · exact no h
    · simp only [Bool.and_eq_true] at h
      exact RA.of_val he (fun u q => ta_sb h.1 (hρ x) q) h.2
  case extract x i => exact RA.of_val he (fun u q => ex_sb (hρ x) q) h
  case call c =>
    obtain ⟨callee, args, ts⟩ := c
    have hl := SbL.map_op hρ args.toList
    cases callee with
    | value f => simp at h
    | invoke r m => simp at h
    | builtin bi =>
      cases bi <;> simp only at h ⊢ <;> first | (exact no h) | skip
      case len =>
        split at h
        · rename_i t x q1 q2
          rw [q2] at hl
          generalize args.toList.map ρ' = w at hl
          cases hl with
          | cons _ x' _ _ hx hl =>
          cases hl
          rw [q1]
          simp only
          cases hq : lnV P H t x with
          | none => rw [hq] at h; cases h
          | some u =>
            rw [hq] at h
            simp only [optB, Bool.and_eq_true] at h
            obtain ⟨u', p1, p2⟩ := ln_sb hh hx hq h.1
            exact RA.same he p1 p2 h.2
        · cases h
      case min => exact mmA_ok he hl h
      case max => exact mmA_ok he hl h
  all_goals exact no h

end
end Go.Ns

/- Ns, part Sm: regions of open order with unknowns: going through them. -/
namespace Go.Ns

structure EntA where
  i : Nat
  w : Bool
  ρ : Operand → V
  v : V
  id : Option Nat

def plainO : HObj → Bool | .cells _ cs => cs.all plainV | _ => false

/-- Is it still so? Reckoned with unknowns. -/
def againA (P : Program) (ops : Array Oper) (H : Heap) (e : EntA) : Bool :=
  match ops[e.i]? with
  | none => false
  | some o => !e.w || isEff o || match e.id with
    | some i => match frV P o e.ρ i, H.get i with
      | some (_, .cells g zs), some (.cells g' cs) => g == g' && zs.all plainV && noUs cs && againB.sameVs zs cs
      | _, _ => false
    | none => match o.op with
      | .load t a => match ldV P H t (e.ρ a) with | some u => noU u && againB.sameV u e.v | none => false
      | .slice t x lo hi mx => smallV (lo.map e.ρ) && smallV (hi.map e.ρ) && smallV (mx.map e.ρ) && match slV P H t (e.ρ x) (lo.map e.ρ) (hi.map e.ρ) (mx.map e.ρ) with | some u => noU u && againB.sameV u e.v | none => false
      | .call { callee := .builtin .len, args, argTypes } => match argTypes.toList, args.toList.map e.ρ with
        | [t], [x] => match lnV P H t x with | some u => known u && againB.sameV u e.v | none => false
        | _, _ => false
      | .convert s d x => match e.ρ x with | .int .. => (iknT P s).isSome && (iknT P d).isSome | _ => false
      | _ => !heapy o

/-- An entry found with unknowns, and what was found. -/
structure ER2 (P : Program) (ops : Array Oper) (θ : List V) (ι : List Nat) (e : EntA) (e' : Ent) : Prop where
  i : e'.i = e.i
  ρ : ∀ x, Sb θ ι (e.ρ x) (ρV e'.σ x)
  v : Sb θ ι e.v e'.v
  id : e'.id.isSome = e.id.isSome
  want : ∃ o, ops[e.i]? = some o ∧ wantV ops e'.σ o.guard = some e.w ∧
    (e.w = false → e'.v = .tup [] ∧ e'.id = none) ∧
    (e.w = true → isEff o = false → match e.id, e'.id with
      | some j, some jd => ι[j]? = some jd ∧ isFree o = true ∧ ∃ u ob, frV P o e.ρ j = some (u, ob) ∧ plainO ob = true ∧ frV P o (ρV e'.σ) jd = some (e'.v, ob)
      | none, none => ∃ H0, valV P o (ρV e'.σ) H0 = some e'.v
      | _, _ => False)

section
variable {P : Program} {ops : Array Oper} {θ : List V} {ι : List Nat} {b b' : Nat} {H H' : Heap}

theorem ER2.mono {θ2 : List V} {ι2 : List Nat} (h : θ <+: θ2) (g : ι <+: ι2) {e : EntA} {e' : Ent} (q : ER2 P ops θ ι e e') : ER2 P ops θ2 ι2 e e' := by
  refine ⟨q.i, fun x => (q.ρ x).mono h g, q.v.mono h g, q.id, ?_⟩
  obtain ⟨o, h1, h2, h3, h4⟩ := q.want
  refine ⟨o, h1, h2, h3, fun hw he => ?_⟩
  have := h4 hw he
  split at this
  · obtain ⟨a1, a2⟩ := this; exact ⟨pre_get g a1, a2⟩
  · exact this
  · exact this.elim

theorem againA_ok (hh : SbH θ ι b b' H H') {e : EntA} {e' : Ent} (hr : ER2 P ops θ ι e e') (h : againA P ops H e = true) : again P ops H' e' := by
  obtain ⟨o, ho, hw, hf, ht⟩ := hr.want
  unfold againA at h
  rw [ho] at h
  unfold again
  rw [hr.i, ho]
  simp only
  rw [hw]
  cases hew : e.w with
  | false => simp only; exact hf hew
  | true =>
    simp only
    rw [hew] at h
    by_cases heff : isEff o = true
    · rw [if_pos heff]; trivial
    · rw [if_neg heff]
      simp only [Bool.not_eq_true] at heff
      have ht := ht hew heff
      simp only [Bool.not_true, Bool.false_or, heff] at h
      cases hid : e.id with
      | some j =>
        rw [hid] at ht h
        simp only at h
        cases hid' : e'.id with
        | none => rw [hid'] at ht; exact ht.elim
        | some jd =>
          rw [hid'] at ht
          obtain ⟨h1, h2, u, ob, h3, h4, h5⟩ := ht
          refine ⟨h2, ?_⟩
          rw [h5]
          refine ⟨rfl, ?_⟩
          rw [h3] at h
          split at h
          · rename_i x1 g zs g' cs q1 q2
            simp only [Option.some.injEq, Prod.mk.injEq] at q1
            obtain ⟨_, rfl⟩ := q1
            simp only [Bool.and_eq_true, beq_iff_eq] at h
            obtain ⟨⟨⟨rfl, p2⟩, p3⟩, p4⟩ := h
            have hz := sameVs_eq _ _ p4
            subst hz
            obtain ⟨cs', c1, c2⟩ := hh.cells h1 q2
            rw [c1, SbL.det p3 c2 (SbL.plain p2)]
          · cases h
      | none =>
        rw [hid] at ht h
        simp only at h
        cases hid' : e'.id with
        | some jd => rw [hid'] at ht; exact ht.elim
        | none =>
          rw [hid'] at ht
          obtain ⟨H0, hv⟩ := ht
          simp only
          obtain ⟨dst, op, type, pos, after, guard⟩ := o
          have hρ := hr.ρ
          cases op
          case load t a =>
            simp only at h
            split at h
            · rename_i u q
              simp only [Bool.and_eq_true] at h
              obtain ⟨u', p1, p2⟩ := ld_sb hh (hρ a) q
              have e1 := sameV_eq _ _ h.2
              have p3 := hr.v
              rw [← e1] at p3
              show ldV P H' t _ = _
              rw [p1, Sb.det h.1 p2 p3]
            · cases h
          case slice t x lo hi mx =>
            simp only [Bool.and_eq_true] at h
            obtain ⟨⟨⟨h1, h2⟩, h3⟩, h4⟩ := h
            split at h4
            · rename_i u q
              simp only [Bool.and_eq_true] at h4
              obtain ⟨u', p1, p2⟩ := sl_sb hh (hρ x) q
              have e1 := sameV_eq _ _ h4.2
              have p3 := hr.v
              rw [← e1] at p3
              show slV P H' t _ _ _ _ = _
              rw [smallV_ok hρ h1, smallV_ok hρ h2, smallV_ok hρ h3, p1, Sb.det h4.1 p2 p3]
            · cases h4
          case convert s d x =>
            simp only at h
            split at h
            · rename_i k n q
              simp only [Bool.and_eq_true] at h
              have hx := hρ x
              rw [q] at hx
              have hz : ∃ z, ρV e'.σ x = .int k z := by
                generalize ρV e'.σ x = w at hx
                cases hx
                · exact ⟨_, rfl⟩
                · exact ⟨_, rfl⟩
              obtain ⟨z, hz⟩ := hz
              obtain ⟨k1, hk1⟩ := Option.isSome_iff_exists.1 h.1
              obtain ⟨k2, hk2⟩ := Option.isSome_iff_exists.1 h.2
              have hcv : cvV P s d (ρV e'.σ x) = some (.int k2 (k2.wrap z)) := by rw [hz]; simp only [cvV, hk1, hk2]
              simp only [valV, hcv] at hv ⊢
              exact hv
            · cases h
          case call c =>
            obtain ⟨callee, args, ts⟩ := c
            have hl := SbL.map_op hρ args.toList
            cases callee with
            | value f => simp [heapy] at h
            | invoke r m => simp [heapy] at h
            | builtin bi =>
              cases bi <;> simp only [heapy, Bool.not_true, Bool.false_eq_true] at h
              case len =>
                split at h
                · rename_i t x q1 q2
                  rw [q2] at hl
                  generalize hg : args.toList.map (ρV e'.σ) = w at hl
                  cases hl with
                  | cons _ x' _ _ hx hl =>
                  cases hl
                  split at h
                  · rename_i u q
                    simp only [Bool.and_eq_true] at h
                    obtain ⟨u', p1, p2⟩ := ln_sb hh hx q h.1
                    have e1 := sameV_eq _ _ h.2
                    have p3 := hr.v
                    rw [← e1] at p3
                    have hn : noU u = true := by have := h.1; cases u <;> simp [known] at this <;> rfl
                    simp only [valV, q1, hg]
                    rw [p1, Sb.det hn p2 p3]
                  · cases h
                · cases h
          all_goals
            first
            | (simp only [heapy, Bool.not_true, Bool.false_eq_true] at h; done)
            | (rw [valV_heapy (by simpa using h) _ H' H0]; exact hv)

end
end Go.Ns

/- Ns, part Sn: regions of open order with unknowns: the rule. -/
namespace Go.Ns

def effBaseA (D : List (List Nat)) (rc : List EntA) (i : Nat) (H : Heap) (b : Nat) : Nat :=
  if (rc.any fun e => e.id.isSome && !depOf D i e.i) = true then H.n else b

def freeOk (o : Oper) (ρ : Operand → V) : Bool :=
  match o.op with
  | .alloc _ => true
  | .makeSlice _ l c => known (ρ l) && known (ρ c)
  | _ => false

def drawA (P : Program) (call : CallA) (b : Nat) (ops : Array Oper) (D : List (List Nat)) (K : Env → S → Bool) (KP : Env → V → S → Bool) : List Nat → Env → S → List EntA → Bool
  | [], E, s, _ => K E s
  | i :: rest, E, s, rc => match ops[i]? with
    | none => false
    | some o => wantA E ops s.σ o.guard fun E w =>
      if w = true then
        if isEff o = true then
          opA P call (effBaseA D rc i s.H b) E o (ρA E s.σ) s.H
            (fun E2 v H2 => ((rc.filter (fun e => heapyAt ops e.i && !depOf D i e.i)).all fun e => againA P ops H2 e) && drawA P call b ops D K KP rest E2 ⟨upd s.σ o.dst v, H2, s.D⟩ (rc ++ [⟨i, true, ρA E s.σ, v, none⟩]))
            (fun _ _ _ => false) (fun E2 v H2 => (rest.isEmpty && rc.all fun e => depOf D i e.i) && KP E2 v ⟨s.σ, H2, s.D⟩)
        else if isFree o = true then freeOk o (ρA E s.σ) && match frV P o (ρA E s.σ) s.H.n with
          | some (v, ob) => plainO ob && ((rc.filter (fun e => heapyAt ops e.i)).all fun e => againA P ops (s.H.new ob) e) && drawA P call b ops D K KP rest E ⟨upd s.σ o.dst v, s.H.new ob, s.D⟩ (rc ++ [⟨i, true, ρA E s.σ, v, some s.H.n⟩])
          | none => false
        else valA P E o (ρA E s.σ) s.H fun E2 v => drawA P call b ops D K KP rest E2 ⟨upd s.σ o.dst v, s.H, s.D⟩ (rc ++ [⟨i, true, ρA E s.σ, v, none⟩])
      else drawA P call b ops D K KP rest E ⟨upd s.σ o.dst (.tup []), s.H, s.D⟩ (rc ++ [⟨i, false, ρA E s.σ, .tup [], none⟩])

inductive RcR (P : Program) (ops : Array Oper) (θ : List V) (ι : List Nat) : List EntA → List Ent → Prop
  | nil : RcR P ops θ ι [] []
  | cons (e : EntA) (e' : Ent) (l : List EntA) (l' : List Ent) : ER2 P ops θ ι e e' → RcR P ops θ ι l l' → RcR P ops θ ι (e :: l) (e' :: l')

section
variable {P : Program} {ops : Array Oper} {θ : List V} {ι : List Nat} {b b' : Nat} {H H' : Heap} {E : Env}

theorem RcR.mono {θ2 : List V} {ι2 : List Nat} (h : θ <+: θ2) (g : ι <+: ι2) {l : List EntA} {l' : List Ent} (q : RcR P ops θ ι l l') : RcR P ops θ2 ι2 l l' := by
  induction q with
  | nil => exact .nil
  | cons e e' l l' h1 _ ih => exact .cons _ _ _ _ (h1.mono h g) ih

theorem RcR.snoc {l : List EntA} {l' : List Ent} (q : RcR P ops θ ι l l') {e : EntA} {e' : Ent} (h : ER2 P ops θ ι e e') : RcR P ops θ ι (l ++ [e]) (l' ++ [e']) := by
  induction q with
  | nil => exact .cons _ _ _ _ h .nil
  | cons e e' l l' h1 _ ih => exact .cons _ _ _ _ h1 ih

theorem RcR.mem {l : List EntA} {l' : List Ent} (q : RcR P ops θ ι l l') {e' : Ent} (h : e' ∈ l') : ∃ e ∈ l, ER2 P ops θ ι e e' := by
  induction q with
  | nil => cases h
  | cons e e2 l l' h1 _ ih =>
    rcases List.mem_cons.1 h with p | p
    · subst p; exact ⟨e, List.mem_cons_self, h1⟩
    · obtain ⟨e3, p1, p2⟩ := ih p; exact ⟨e3, List.mem_cons_of_mem _ p1, p2⟩

theorem RcR.any {D : List (List Nat)} {i : Nat} {l : List EntA} {l' : List Ent} (q : RcR P ops θ ι l l') : (l'.any fun e => e.id.isSome && !depOf D i e.i) = (l.any fun e => e.id.isSome && !depOf D i e.i) := by
  induction q with
  | nil => rfl
  | cons e e2 l l' h1 _ ih => simp only [List.any_cons, ih, h1.i, h1.id]

theorem SbH.top (h : SbH θ ι b b' H H') : SbH θ ι H.n H'.n H H' :=
  ⟨h.n, h.inj, h.lt, h.get, fun i id hi hq => by
    have := (List.getElem?_eq_some_iff.1 hi).1
    rw [h.n] at hq; omega, Nat.le_refl _, h.opq⟩

theorem SbH.rebase {θ2 : List V} {ι2 : List Nat} {H2 H2' : Heap} (h : SbH θ ι b b' H H') (g : ι <+: ι2) (k : SbH θ2 ι2 H.n H'.n H2 H2') : SbH θ2 ι2 b b' H2 H2' := by
  refine ⟨k.n, k.inj, k.lt, k.get, fun i id hi hq => ?_, Nat.le_trans h.low k.low, k.opq⟩
  by_cases hl : i < ι.length
  · obtain ⟨t, rfl⟩ := g
    rw [List.getElem?_append_left hl] at hi
    exact h.base i id hi hq
  · exact Nat.le_trans h.low (k.base i id hi (by rw [h.n]; omega))

theorem fr_sb {o : Oper} {ρ ρ' : Operand → V} (hρ : ∀ x, Sb θ ι (ρ x) (ρ' x)) (hf : freeOk o ρ = true) {i : Nat} {u : V} {ob : HObj} (h : frV P o ρ i = some (u, ob)) (id : Nat) :
    ∃ u', frV P o ρ' id = some (u', ob) ∧ ∀ {θ2 : List V} {ι2 : List Nat}, ι2[i]? = some id → Sb θ2 ι2 u u' := by
  obtain ⟨dst, op, type, pos, after, guard⟩ := o
  cases op <;> simp only [freeOk, Bool.false_eq_true] at hf <;> simp only [frV] at h ⊢
  case alloc t =>
    simp only [Option.bind_eq_some_iff, Option.map_eq_some_iff] at h ⊢
    obtain ⟨z, hz, cs, hcs, he⟩ := h
    cases he
    exact ⟨_, ⟨z, hz, cs, hcs, rfl⟩, fun hi => .ptr _ _ _ _ hi⟩
  case makeSlice t l c =>
    simp only [Bool.and_eq_true] at hf
    rw [known_sb (hρ l) hf.1, known_sb (hρ c) hf.2]
    split at h
    · split at h
      · split at h
        · rename_i hq
          cases h
          exact ⟨_, by rw [if_pos hq], fun hi => .hsl _ _ _ _ _ _ _ _ hi⟩
        · cases h
      · cases h
    · cases h

theorem drawA_ok {call : CallA} (hc : CallOkA P call) {N : Nat} (hd : ∀ (i : Nat) (o : Oper), ops[i]? = some o → dstOk N o.dst) {D : List (List Nat)} {K : Env → S → Bool} {KP : Env → V → S → Bool} {K' : Option V → S → Prop} :
    ∀ (l : List Nat) {θ : List V} {ι : List Nat} {E : Env} (s s' : S) (rc : List EntA) (rc' : List Ent), (∀ s', KS θ ι b b' K s' → K' none s') → (∀ v' s', KSP θ ι b b' KP v' s' → K' (some v') s') → StS θ ι b b' E s s' → RcR P ops θ ι rc rc' → drawA P call b ops D K KP l E s rc = true → drawW P b' N ops D K' l s' rc'
  | [], θ, ι, E, s, s', rc, rc', hk, hkp, hs, _, h => hk _ ⟨θ, E, ι, s, .refl _, List.prefix_refl _, hs, h⟩
  | i :: rest, θ, ι, E0, s, s', rc, rc', hk, hkp, hs0, hrc, h => by
    simp only [drawA] at h
    simp only [drawW]
    split at h
    · cases h
    · rename_i o ho
      simp only [ho]
      refine ⟨hd i o ho, ?_⟩
      obtain ⟨w, E, h1, h2, h3⟩ := wantA_ok hs0 h
      have hs : StS θ ι b b' E s s' := ⟨h2, hs0.tm, hs0.hp, hs0.ds⟩
      have hρ := fun x => ρA_ok hs x
      have hk2 : ∀ {θ2 : List V} {ι2 : List Nat}, Grow θ θ2 → ι <+: ι2 → ∀ s', KS θ2 ι2 b b' K s' → K' none s' := fun g1 g2 s3 ⟨θ3, E3, ι3, s4, a1, a2, a3⟩ => hk s3 ⟨θ3, E3, ι3, s4, g1.trans a1, g2.trans a2, a3⟩
      have hkp2 : ∀ {θ2 : List V} {ι2 : List Nat}, Grow θ θ2 → ι <+: ι2 → ∀ v' s', KSP θ2 ι2 b b' KP v' s' → K' (some v') s' := fun g1 g2 v3 s3 ⟨θ3, E3, ι3, v4, s4, a1, a2, a3⟩ => hkp v3 s3 ⟨θ3, E3, ι3, v4, s4, g1.trans a1, g2.trans a2, a3⟩
      rw [h1]
      cases w with
      | false =>
        simp only [Bool.false_eq_true, if_false] at h3
        refine drawA_ok hc hd rest ⟨upd s.σ o.dst (.tup []), s.H, s.D⟩ ⟨upd s'.σ o.dst (.tup []), s'.H, s'.D⟩ _ _ hk hkp ⟨h2, upd_sb hs.tm o.dst (.tup _ _ .nil), hs.hp, hs.ds⟩ (hrc.snoc ?_) h3
        exact ⟨rfl, hρ, .tup _ _ .nil, rfl, o, ho, h1, fun _ => ⟨rfl, rfl⟩, fun q => by cases q⟩
      | true =>
        simp only [if_true] at h3
        simp only
        split at h3
        · rename_i heff
          rw [if_pos heff]
          have hbase : SbH θ ι (effBaseA D rc i s.H b) (effBase D rc' i s'.H b') s.H s'.H := by
            unfold effBaseA effBase
            rw [hrc.any]
            split
            · exact hs.hp.top
            · exact hs.hp
          have hreb : ∀ {θ2 : List V} {ι2 : List Nat} {H2 H2' : Heap}, ι <+: ι2 → SbH θ2 ι2 (effBaseA D rc i s.H b) (effBase D rc' i s'.H b') H2 H2' → SbH θ2 ι2 b b' H2 H2' := by
            intro θ2 ι2 H2 H2' g k
            unfold effBaseA effBase at k
            rw [hrc.any] at k
            split at k
            · exact hs.hp.rebase g k
            · exact k
          refine opA_ok hc h2 hbase hρ h3 ?_ (fun _ _ _ _ q => by cases q) ?_
          · rintro v' H2' ⟨θ2, E2, ι2, v, H2, g1, g2, g3, g4, g5, g6⟩
            simp only [Bool.and_eq_true, List.all_eq_true] at g6
            have hp2 := hreb g2 g4
            have hrc2 := hrc.mono g1.pre g2
            refine ⟨fun e' he' => ?_, ?_⟩
            · obtain ⟨m1, m2⟩ := List.mem_filter.1 he'
              obtain ⟨e, p1, p2⟩ := hrc2.mem m1
              refine againA_ok hp2 p2 (g6.1 e (List.mem_filter.2 ⟨p1, ?_⟩))
              rw [← p2.i]; exact m2
            · refine drawA_ok hc hd rest ⟨upd s.σ o.dst v, H2, s.D⟩ ⟨upd s'.σ o.dst v', H2', s'.D⟩ _ _ (hk2 g1 g2) (hkp2 g1 g2) ⟨g3, upd_sb (fun t => (hs.tm t).mono g1.pre g2) o.dst g5, hp2, hs.ds.mono g1.pre g2⟩ (hrc2.snoc ?_) g6.2
              exact ⟨rfl, fun x => (hρ x).mono g1.pre g2, g5, rfl, o, ho, h1, (fun q => by cases q), fun _ q => by rw [heff] at q; cases q⟩
          · rintro v' H2' ⟨θ2, E2, ι2, v, H2, g1, g2, g3, g4, g5, g6⟩
            simp only [Bool.and_eq_true, List.all_eq_true] at g6
            obtain ⟨⟨q1, q2⟩, q3⟩ := g6
            have hp2 := hreb g2 g4
            refine ⟨?_, hkp _ _ ⟨θ2, E2, ι2, v, ⟨s.σ, H2, s.D⟩, g1, g2, ⟨g3, fun t => (hs.tm t).mono g1.pre g2, hp2, hs.ds.mono g1.pre g2⟩, g5, q3⟩⟩
            simp only [Bool.and_eq_true, List.all_eq_true]
            refine ⟨q1, fun e' he' => ?_⟩
            obtain ⟨e, p1, p2⟩ := hrc.mem he'
            rw [p2.i]
            exact q2 e p1
        · rename_i heff
          rw [if_neg heff]
          simp only [Bool.not_eq_true] at heff
          split at h3
          · rename_i hfree
            rw [if_pos hfree]
            simp only [Bool.and_eq_true] at h3
            obtain ⟨h4, h3⟩ := h3
            split at h3
            · rename_i v ob hfr
              simp only [Bool.and_eq_true, List.all_eq_true] at h3
              obtain ⟨⟨h5, h6⟩, h7⟩ := h3
              obtain ⟨v', q1, q2⟩ := fr_sb hρ h4 hfr s'.H.n
              rw [q1]
              simp only
              have hidx : (ι ++ [s'.H.n])[s.H.n]? = some s'.H.n := by rw [hs.hp.n]; simp
              have hpre : ι <+: ι ++ [s'.H.n] := List.prefix_append _ _
              have hob : SbO θ ι ob ob := by
                cases ob <;> simp only [plainO, Bool.false_eq_true] at h5
                exact ⟨rfl, SbL.plain h5⟩
              have hp2 : SbH θ (ι ++ [s'.H.n]) b b' (s.H.new ob) (s'.H.new ob) := hs.hp.new' hob
              have hrc2 := hrc.mono (List.prefix_refl θ) hpre
              refine ⟨fun e' he' => ?_, ?_⟩
              · obtain ⟨m1, m2⟩ := List.mem_filter.1 he'
                obtain ⟨e, p1, p2⟩ := hrc2.mem m1
                refine againA_ok hp2 p2 (h6 e (List.mem_filter.2 ⟨p1, ?_⟩))
                rw [← p2.i]; exact m2
              · refine drawA_ok hc hd rest ⟨upd s.σ o.dst v, s.H.new ob, s.D⟩ ⟨upd s'.σ o.dst v', s'.H.new ob, s'.D⟩ _ _ (hk2 (.refl _) hpre) (hkp2 (.refl _) hpre) ⟨h2, upd_sb (fun t => (hs.tm t).mono (List.prefix_refl _) hpre) o.dst (q2 hidx), hp2, hs.ds.mono (List.prefix_refl _) hpre⟩ (hrc2.snoc ?_) h7
                exact ⟨rfl, fun x => (hρ x).mono (List.prefix_refl _) hpre, q2 hidx, rfl, o, ho, h1, (fun q => by cases q), fun _ _ => ⟨hidx, hfree, v, ob, hfr, h5, q1⟩⟩
            · cases h3
          · rename_i hfree
            rw [if_neg hfree]
            obtain ⟨θ2, E2, v, v', g1, g2, g3, g4, g5⟩ := valA_ok h2 hs.hp hρ h3
            rw [g3]
            simp only
            refine drawA_ok hc hd rest ⟨upd s.σ o.dst v, s.H, s.D⟩ ⟨upd s'.σ o.dst v', s'.H, s'.D⟩ _ _ (hk2 g1 (List.prefix_refl _)) (hkp2 g1 (List.prefix_refl _)) ⟨g2, upd_sb (fun t => (hs.tm t).mono g1.pre (List.prefix_refl _)) o.dst g4, hs.hp.grow g1, hs.ds.mono g1.pre (List.prefix_refl _)⟩ ((hrc.mono g1.pre (List.prefix_refl _)).snoc ?_) g5
            exact ⟨rfl, fun x => (hρ x).mono g1.pre (List.prefix_refl _), g4, rfl, o, ho, h1, (fun q => by cases q), fun _ _ => ⟨_, g3⟩⟩

end
end Go.Ns

/- Ns, part So: code with unknowns, whole. -/
namespace Go.Ns
section
variable {P : Program} {θ : List V} {ι : List Nat} {b b' : Nat} {E : Env}

/-! ### Code -/
def blockA (id : Nat) (K : Env → Ex → S → Bool) : Env → Ex → S → Bool
  | E, .exit i, s => if i = id then K E .normal s else K E (.exit i) s
  | E, ex, s => K E ex s

def codeA (P : Program) (call : CallA) (b N : Nat) : Nat → Code → Env → S → (Env → Ex → S → Bool) → Bool
  | 0, _, _, _, _ => false
  | n + 1, c, E, s, K => match c with
    | .skip => K E .normal s
    | .seq x y => codeA P call b N n x E s fun E ex s' => match ex with | .normal => codeA P call b N n y E s' K | ex => K E ex s'
    | .region _ ops true => opsOk N ops.toList && drawOk ops (mkD ops) (planD ops) && drawA P call b ops (mkD ops) (fun E s' => K E .normal s') (fun E v s' => K E (.pan v) s') (planD ops) E s []
    | .region _ ops false => opsOk N ops.toList && opsA P call b ops (fun E s' => K E .normal s') (fun E v s' => K E (.pan v) s') ops.toList E s
    | .cond c x y => boolA E (ρA E s.σ c) fun E p => codeA P call b N n (if p = true then x else y) E s K
    | .block id c => codeA P call b N n c E s (blockA id K)
    | .loop c => codeA P call b N n c E s fun E ex s' => match ex with | .normal => codeA P call b N n (.loop c) E s' K | ex => K E ex s'
    | .exit i => K E (.exit i) s
    | .ret => K E .ret s
    | _ => false

theorem codeA_ok (hm : P.follows .mixedOrders = true) {call : CallA} (hc : CallOkA P call) {N : Nat} : ∀ (n : Nat) (c : Code) {θ : List V} {ι : List Nat} {E : Env} (s s' : S) (K : Env → Ex → S → Bool), StS θ ι b b' E s s' → codeA P call b N n c E s K = true → NWp P b' N c (KX θ ι b b' K) s' := by
  intro n
  induction n using Nat.strongRecOn with
  | _ n ih =>
  intro c θ ι E s s' K hs h
  cases n with
  | zero => simp [codeA] at h
  | succ n =>
    cases c with
    | skip => simp only [codeA] at h; exact nwp_skip ⟨θ, E, ι, .normal, s, .refl _, List.prefix_refl _, hs, trivial, h⟩
    | seq x y =>
      simp only [codeA] at h
      refine nwp_seq ((ih n (Nat.lt_succ_self n) x s s' _ hs h).mono ?_)
      rintro ex' s2' ⟨θ2, E2, ι2, ex, s2, g1, g2, g3, g4, g5⟩
      cases ex <;> cases ex' <;> simp only [ExS] at g4
      · refine (ih n (Nat.lt_succ_self n) y s2 s2' K g3 g5).mono ?_
        rintro ex3' s3' ⟨θ3, E3, ι3, ex3, s3, k1, k2, k3⟩
        exact ⟨θ3, E3, ι3, ex3, s3, g1.trans k1, g2.trans k2, k3⟩
      · exact ⟨θ2, E2, ι2, .exit _, s2, g1, g2, g3, g4, g5⟩
      · exact ⟨θ2, E2, ι2, .ret, s2, g1, g2, g3, trivial, g5⟩
      · exact ⟨θ2, E2, ι2, .pan _, s2, g1, g2, g3, g4, g5⟩
    | region id ops d =>
      have e : ops = ops.toList.toArray := by simp
      cases d with
      | false =>
        simp only [codeA, Bool.and_eq_true] at h
        rw [e]
        refine nwp_region h.1 ?_
        rw [← e]
        refine opsA_ok hc _ s s' ?_ ?_ (dstOk_of_opsOk h.1) hs h.2
        · rintro s2' ⟨θ2, E2, ι2, s2, g1, g2, g3, g4⟩
          exact ⟨θ2, E2, ι2, .normal, s2, g1, g2, g3, trivial, g4⟩
        · rintro v' s2' ⟨θ2, E2, ι2, v, s2, g1, g2, g3, g4, g5⟩
          exact ⟨θ2, E2, ι2, .pan v, s2, g1, g2, g3, g4, g5⟩
      | true =>
        simp only [codeA, Bool.and_eq_true] at h
        obtain ⟨⟨h1, h2⟩, h3⟩ := h
        rw [e]
        refine nwp_draw (mkD ops) (planD ops) hm h1 (by simpa using h2) ?_
        rw [← e]
        refine drawA_ok hc (fun i o ho => dstOk_of_opsOk h1 o ?_) _ s s' [] [] ?_ ?_ hs .nil h3
        · have := Array.mem_of_getElem? ho
          simpa using this
        · rintro s2' ⟨θ2, E2, ι2, s2, g1, g2, g3, g4⟩
          exact ⟨θ2, E2, ι2, .normal, s2, g1, g2, g3, trivial, g4⟩
        · rintro v' s2' ⟨θ2, E2, ι2, v, s2, g1, g2, g3, g4, g5⟩
          exact ⟨θ2, E2, ι2, .pan v, s2, g1, g2, g3, g4, g5⟩
    | cond c x y =>
      simp only [codeA] at h
      obtain ⟨p, E2, q1, q2, q3⟩ := boolA_ok hs.env (ρA_ok hs c) h
      refine nwp_cond q1 ?_
      exact ih n (Nat.lt_succ_self n) _ s s' K ⟨q2, hs.tm, hs.hp, hs.ds⟩ q3
    | block id c =>
      simp only [codeA] at h
      refine nwp_block ((ih n (Nat.lt_succ_self n) c s s' _ hs h).mono ?_)
      rintro ex' s2' ⟨θ2, E2, ι2, ex, s2, g1, g2, g3, g4, g5⟩
      cases ex <;> cases ex' <;> simp only [ExS] at g4
      · exact ⟨θ2, E2, ι2, .normal, s2, g1, g2, g3, trivial, g5⟩
      · subst g4
        simp only [blockA] at g5
        simp only [blockQ]
        split at g5
        · rename_i q; rw [if_pos q]; exact ⟨θ2, E2, ι2, .normal, s2, g1, g2, g3, trivial, g5⟩
        · rename_i q; rw [if_neg q]; exact ⟨θ2, E2, ι2, .exit _, s2, g1, g2, g3, rfl, g5⟩
      · exact ⟨θ2, E2, ι2, .ret, s2, g1, g2, g3, trivial, g5⟩
      · exact ⟨θ2, E2, ι2, .pan _, s2, g1, g2, g3, g4, g5⟩
    | loop c =>
      refine nwp_loop (fun m s2' => m ≤ n + 1 ∧ ∃ θ2 E2 ι2 s2, Grow θ θ2 ∧ ι <+: ι2 ∧ StS θ2 ι2 b b' E2 s2 s2' ∧ codeA P call b N m (.loop c) E2 s2 K = true) (n := n + 1) ⟨Nat.le_refl _, θ, E, ι, s, .refl _, List.prefix_refl _, hs, h⟩ ?_
      rintro m s2' ⟨hm, θ2, E2, ι2, s2, g1, g2, g3, hq⟩
      cases m with
      | zero => simp [codeA] at hq
      | succ m =>
        simp only [codeA] at hq
        refine (ih m (by omega) c s2 s2' _ g3 hq).mono ?_
        rintro ex' s3' ⟨θ3, E3, ι3, ex, s3, k1, k2, k3, k4, k5⟩
        cases ex <;> cases ex' <;> simp only [ExS] at k4
        · exact ⟨m, Nat.lt_succ_self m, by omega, θ3, E3, ι3, s3, g1.trans k1, g2.trans k2, k3, k5⟩
        · exact ⟨θ3, E3, ι3, .exit _, s3, g1.trans k1, g2.trans k2, k3, k4, k5⟩
        · exact ⟨θ3, E3, ι3, .ret, s3, g1.trans k1, g2.trans k2, k3, trivial, k5⟩
        · exact ⟨θ3, E3, ι3, .pan _, s3, g1.trans k1, g2.trans k2, k3, k4, k5⟩
    | exit i => simp only [codeA] at h; exact nwp_exit ⟨θ, E, ι, .exit i, s, .refl _, List.prefix_refl _, hs, rfl, h⟩
    | ret => simp only [codeA] at h; exact nwp_ret ⟨θ, E, ι, .ret, s, .refl _, List.prefix_refl _, hs, trivial, h⟩
    | _ => simp [codeA] at h


end
end Go.Ns

/- Ns, part Sk: calls with unknowns. -/
namespace Go.Ns

abbrev GivA := Env → Nat → List V → Heap → (Env → Res → Heap → Bool) → Bool

def GivOk (P : Program) (f : FuncId) (c : GivA) : Prop :=
  ∀ (E : Env) (b : Nat) (args : List V) (H : Heap) (K : Env → Res → Heap → Bool), c E b args H K = true →
    ∀ (θ : List V) (ι : List Nat) (b' : Nat) (args' : List V) (H' : Heap), EnvOk θ E → SbH θ ι b b' H H' → SbL θ ι args args' → NCall P b' f args' H' (KR θ ι b b' K)

def resA (P : Program) (s : S) : ResultVar → Option V
  | .tmp t => some (s.σ t)
  | .cell a t => ldV P s.H t (s.σ a)

def resAs (P : Program) (s : S) : List ResultVar → Option (List V)
  | [] => some []
  | r :: rs => (resA P s r).bind fun v => (resAs P s rs).map fun vs => v :: vs

def endA (P : Program) (rs : List ResultVar) (K : Env → Res → Heap → Bool) (E : Env) (s : S) : Bool :=
  match resAs P s rs with | some vs => K E (.ret (oneV vs)) s.H | none => false

def bodyKA (P : Program) (rs : List ResultVar) (K : Env → Res → Heap → Bool) : Env → Ex → S → Bool
  | E, .normal, s | E, .ret, s => match s.D with | [] => endA P rs K E s | _ => false
  | E, .pan v, s => match s.D with | [] => K E (.pan v) s.H | _ => false
  | _, .exit _, _ => false

def codeDA (P : Program) (call : CallA) (b N n : Nat) (rv : V) : Code → Env → S → (Env → Ex → S → Bool) → Bool
  | .seq x y, E, s, K => codeDA P call b N n rv x E s fun E ex s' => match ex with | .normal => codeA P call b N n y E s' K | ex => K E ex s'
  | .region _ ops false, E, s, K => opsOk N ops.toList && match ops.toList with
    | o :: rest => isRecover o && opsA P call b ops (fun E s' => K E .normal s') (fun E v s' => K E (.pan v) s') rest E ⟨upd s.σ o.dst rv, s.H, s.D⟩
    | [] => false
  | _, _, _, _ => false

def laterA (P : Program) (call : CallA) (n b : Nat) (fn : Func) (rv : V) (E : Env) (s : S) (K : Env → Res → Heap → Bool) : Bool :=
  match s.D with
  | [(g, cap)] => fnT P g && match P.funcs[g]? with
    | none => false
    | some gn => match gn.body with
      | none => false
      | some c => gn.results.isEmpty && decide (cap.length ≤ gn.ntmps) &&
        codeDA P call b gn.ntmps n rv c E ⟨σ0 cap, s.H, []⟩ fun E ex s2 => match ex with
          | .normal | .ret => match s2.D with | [] => endA P fn.results.toList K E ⟨s.σ, s2.H, []⟩ | _ => false
          | _ => false
  | _ => false

def runA (P : Program) (call : CallA) (n b : Nat) (fn : Func) (c : Code) (E : Env) (args : List V) (H : Heap) (K : Env → Res → Heap → Bool) : Bool :=
  if codeDefers c = true then codeA P call b fn.ntmps n c E ⟨σ0 args, H, []⟩ fun E ex s => match ex with
    | .normal | .ret => laterA P call n b fn .nili E s K
    | .pan v => laterA P call n b fn v E s K
    | .exit _ => false
  else codeA P call b fn.ntmps n c E ⟨σ0 args, H, []⟩ (bodyKA P fn.results.toList K)

/-- A call with unknowns. 'giv': what is given by contract; 'still': what leaves nothing behind. -/
def callA (P : Program) (giv : FuncId → Option GivA) (still : FuncId → Bool) : Nat → CallA
  | 0 => fun _ _ _ _ _ _ => false
  | n + 1 => fun E b f args H K => match giv f with
    | some c => c E b args H K
    | none => match P.funcs[f]? with
      | none => false
      | some fn => match fn.body with
        | none => false
        | some c => decide (args.length ≤ fn.ntmps) &&
          if still f = true then runA P (callA P giv still n) (n + 1) H.n fn c E args H fun E r H2 => match frzRA H.n H2 r with | some u => K E u H | none => false
          else runA P (callA P giv still n) (n + 1) b fn c E args H K

section
variable {P : Program} {θ : List V} {ι : List Nat} {b b' : Nat} {E : Env}

theorem σ0_sb {args args' : List V} (h : SbL θ ι args args') (t : Nat) : Sb θ ι (σ0 args t) (σ0 args' t) := by
  simp only [σ0, List.getD_eq_getElem?_getD]
  cases hq : args[t]? with
  | none =>
    have : args'[t]? = none := by
      rw [List.getElem?_eq_none_iff] at hq ⊢
      rw [h.length]; exact hq
    rw [this]
    exact .tup _ _ .nil
  | some v =>
    obtain ⟨v', q1, q2⟩ := h.get t hq
    rw [q1]
    exact q2

theorem resA_ok {s s' : S} (hs : StS θ ι b b' E s s') {r : ResultVar} {v : V} (h : resA P s r = some v) : ∃ v', resV P s' r = some v' ∧ Sb θ ι v v' := by
  cases r with
  | tmp t => simp only [resA, Option.some.injEq] at h; subst h; exact ⟨_, rfl, hs.tm t⟩
  | cell a t => exact ld_sb hs.hp (hs.tm a) h

theorem resAs_ok {s s' : S} (hs : StS θ ι b b' E s s') : ∀ {rs : List ResultVar} {vs : List V}, resAs P s rs = some vs → ∃ vs', resVs P s' rs = some vs' ∧ SbL θ ι vs vs'
  | [], vs, h => by simp [resAs] at h; subst h; exact ⟨[], rfl, .nil⟩
  | r :: rs, vs, h => by
    simp only [resAs, Option.bind_eq_some_iff, Option.map_eq_some_iff] at h
    obtain ⟨v, hv, us, hus, rfl⟩ := h
    obtain ⟨v', q1, q2⟩ := resA_ok (P := P) hs hv
    obtain ⟨us', p1, p2⟩ := resAs_ok hs hus
    exact ⟨v' :: us', by simp [resVs, q1, p1], .cons _ _ _ _ q2 p2⟩

theorem oneV_sb {vs vs' : List V} (h : SbL θ ι vs vs') : Sb θ ι (oneV vs) (oneV vs') := by
  cases h with
  | nil => exact .tup _ _ .nil
  | cons v v' vs vs' h0 h1 =>
    cases h1 with
    | nil => exact h0
    | cons w w' ws ws' g0 g1 => exact .tup _ _ (.cons _ _ _ _ h0 (.cons _ _ _ _ g0 g1))

theorem endA_ok {s s' : S} (hs : StS θ ι b b' E s s') {rs : List ResultVar} {K : Env → Res → Heap → Bool} (h : endA P rs K E s = true) : match resVs P s' rs with | some vs => KR θ ι b b' K (.ret (oneV vs)) s'.H | none => False := by
  unfold endA at h
  split at h
  · rename_i vs q
    obtain ⟨vs', q1, q2⟩ := resAs_ok (P := P) hs q
    rw [q1]
    exact ⟨θ, E, ι, .ret (oneV vs), s.H, .refl _, List.prefix_refl _, hs.env, hs.hp, oneV_sb q2, h⟩
  · cases h

theorem KR.up {θ2 : List V} {ι2 : List Nat} (g1 : Grow θ θ2) (g2 : ι <+: ι2) {K : Env → Res → Heap → Bool} {r : Res} {H : Heap} (h : KR θ2 ι2 b b' K r H) : KR θ ι b b' K r H := by
  obtain ⟨θ3, E3, ι3, r3, H3, a1, a2, a3⟩ := h
  exact ⟨θ3, E3, ι3, r3, H3, g1.trans a1, g2.trans a2, a3⟩

theorem codeDA_ok (hm : P.follows .mixedOrders = true) {call : CallA} (hc : CallOkA P call) {N n : Nat} {rv rv' : V} : ∀ (c : Code) {θ : List V} {ι : List Nat} {E : Env} (s s' : S) (K : Env → Ex → S → Bool) (Q : Ex → S → Prop), (∀ ex s', KX θ ι b b' K ex s' → Q ex s') → Sb θ ι rv rv' → StS θ ι b b' E s s' → codeDA P call b N n rv c E s K = true → NWpD P b' N rv' c Q s'
  | .seq x y, θ, ι, E, s, s', K, Q, hk, hv, hs, h => by
    simp only [codeDA] at h
    simp only [NWpD]
    refine codeDA_ok hm hc x s s' _ _ ?_ hv hs h
    rintro ex' s2' ⟨θ2, E2, ι2, ex, s2, g1, g2, g3, g4, g5⟩
    cases ex <;> cases ex' <;> simp only [ExS] at g4
    · refine (codeA_ok hm hc n y s2 s2' K g3 g5).mono ?_
      rintro ex3' s3' ⟨θ3, E3, ι3, ex3, s3, k1, k2, k3⟩
      exact hk _ _ ⟨θ3, E3, ι3, ex3, s3, g1.trans k1, g2.trans k2, k3⟩
    · exact hk _ _ ⟨θ2, E2, ι2, .exit _, s2, g1, g2, g3, g4, g5⟩
    · exact hk _ _ ⟨θ2, E2, ι2, .ret, s2, g1, g2, g3, trivial, g5⟩
    · exact hk _ _ ⟨θ2, E2, ι2, .pan _, s2, g1, g2, g3, g4, g5⟩
  | .region id ops false, θ, ι, E, s, s', K, Q, hk, hv, hs, h => by
    simp only [codeDA, Bool.and_eq_true] at h
    simp only [NWpD]
    refine ⟨h.1, ?_⟩
    have h2 := h.2
    split at h2
    · rename_i o rest q
      simp only [Bool.and_eq_true] at h2
      have hd := dstOk_of_opsOk h.1
      simp only [q] at hd ⊢
      refine ⟨h2.1, opsA_ok hc rest ⟨upd s.σ o.dst rv, s.H, s.D⟩ ⟨upd s'.σ o.dst rv', s'.H, s'.D⟩ ?_ ?_ (fun o ho => hd o (List.mem_cons_of_mem _ ho)) ⟨hs.env, upd_sb hs.tm o.dst hv, hs.hp, hs.ds⟩ h2.2⟩
      · rintro s2' ⟨θ2, E2, ι2, s2, g1, g2, g3, g4⟩
        exact hk _ _ ⟨θ2, E2, ι2, .normal, s2, g1, g2, g3, trivial, g4⟩
      · rintro v' s2' ⟨θ2, E2, ι2, v, s2, g1, g2, g3, g4, g5⟩
        exact hk _ _ ⟨θ2, E2, ι2, .pan v, s2, g1, g2, g3, g4, g5⟩
    · cases h2
  | .region _ _ true, _, _, _, _, _, _, _, _, _, _, h => by simp [codeDA] at h
  | .skip, _, _, _, _, _, _, _, _, _, _, h => by simp [codeDA] at h
  | .cond .., _, _, _, _, _, _, _, _, _, _, h => by simp [codeDA] at h
  | .block .., _, _, _, _, _, _, _, _, _, _, h => by simp [codeDA] at h
  | .loop _, _, _, _, _, _, _, _, _, _, _, h => by simp [codeDA] at h
  | .rangeFunc .., _, _, _, _, _, _, _, _, _, _, h => by simp [codeDA] at h
  | .exit _, _, _, _, _, _, _, _, _, _, _, h => by simp [codeDA] at h
  | .scope _, _, _, _, _, _, _, _, _, _, _, h => by simp [codeDA] at h
  | .label _, _, _, _, _, _, _, _, _, _, _, h => by simp [codeDA] at h
  | .goto _, _, _, _, _, _, _, _, _, _, _, h => by simp [codeDA] at h
  | .ret, _, _, _, _, _, _, _, _, _, _, h => by simp [codeDA] at h
  | .refuse _, _, _, _, _, _, _, _, _, _, _, h => by simp [codeDA] at h

theorem laterA_ok (hm : P.follows .mixedOrders = true) {call : CallA} (hc : CallOkA P call) {n : Nat} {fn : Func} {rv rv' : V} {s s' : S} {K : Env → Res → Heap → Bool} {Q : Res → Heap → Prop} (hQ : ∀ r H, KR θ ι b b' K r H → Q r H) (hv : Sb θ ι rv rv') (hs : StS θ ι b b' E s s') (h : laterA P call n b fn rv E s K = true) :
    ∃ g cap, s'.D = [(g, cap)] ∧ fnT P g = true ∧ DCall P b' g cap rv' s'.H fun H' => match resVs P ⟨s'.σ, H', []⟩ fn.results.toList with | some vs => Q (.ret (oneV vs)) H' | none => False := by
  unfold laterA at h
  split at h
  · rename_i g cap hD
    have hds := hs.ds
    rw [hD] at hds
    generalize hD' : s'.D = D' at hds
    cases hds with
    | cons _ _ cap' _ D2 hcap hnil =>
    cases hnil
    simp only [Bool.and_eq_true] at h
    obtain ⟨h1, h2⟩ := h
    refine ⟨g, cap', rfl, h1, ?_⟩
    split at h2
    · cases h2
    · rename_i gn hg
      split at h2
      · cases h2
      · rename_i c hb
        simp only [Bool.and_eq_true, decide_eq_true_eq] at h2
        obtain ⟨⟨h3, h4⟩, h5⟩ := h2
        refine ⟨gn, c, hg, hb, by simpa using h3, by rw [hcap.length]; exact h4, ?_⟩
        refine codeDA_ok hm hc c ⟨σ0 cap, s.H, []⟩ ⟨σ0 cap', s'.H, []⟩ _ _ ?_ hv ⟨hs.env, σ0_sb hcap, hs.hp, .nil⟩ h5
        rintro ex' s2' ⟨θ2, E2, ι2, ex, s2, g1, g2, g3, g4, g5⟩
        have fin : (match s2.D with | [] => endA P fn.results.toList K E2 ⟨s.σ, s2.H, []⟩ | _ => false) = true → s2'.D = [] ∧ (match resVs P ⟨s'.σ, s2'.H, []⟩ fn.results.toList with | some vs => Q (.ret (oneV vs)) s2'.H | none => False) := by
          intro hq
          split at hq
          · rename_i hD2
            have hd2 := g3.ds
            rw [hD2] at hd2
            have hnil : s2'.D = [] := by
              generalize s2'.D = D3 at hd2
              cases hd2; rfl
            refine ⟨hnil, ?_⟩
            have := endA_ok (P := P) (s := ⟨s.σ, s2.H, []⟩) (s' := ⟨s'.σ, s2'.H, []⟩) ⟨g3.env, fun t => (hs.tm t).mono g1.pre g2, g3.hp, .nil⟩ hq
            split at this
            · exact hQ _ _ (this.up g1 g2)
            · exact this.elim
          · cases hq
        cases ex <;> cases ex' <;> simp only [ExS] at g4
        · exact fin g5
        · cases g5
        · exact fin g5
        · cases g5
  · cases h

theorem runA_ok (hm : P.follows .mixedOrders = true) {call : CallA} (hc : CallOkA P call) {n : Nat} {f : FuncId} {fn : Func} {c : Code} {args args' : List V} {H H' : Heap} {K : Env → Res → Heap → Bool} (hf : P.funcs[f]? = some fn) (hb : fn.body = some c) (hn : args.length ≤ fn.ntmps)
    (he : EnvOk θ E) (hh : SbH θ ι b b' H H') (ha : SbL θ ι args args') (h : runA P call n b fn c E args H K = true) : NCall P b' f args' H' (KR θ ι b b' K) := by
  have hs : StS θ ι b b' E ⟨σ0 args, H, []⟩ ⟨σ0 args', H', []⟩ := ⟨he, σ0_sb ha, hh, .nil⟩
  have hn' : args'.length ≤ fn.ntmps := by rw [ha.length]; exact hn
  unfold runA at h
  split at h
  · refine ncall_defer hf hb hn' ((codeA_ok hm hc n c _ _ _ hs h).mono ?_)
    rintro ex' s2' ⟨θ2, E2, ι2, ex, s2, g1, g2, g3, g4, g5⟩
    have fin : ∀ {rv rv'}, Sb θ2 ι2 rv rv' → laterA P call n b fn rv E2 s2 K = true → ∃ g cap, s2'.D = [(g, cap)] ∧ fnT P g = true ∧ DCall P b' g cap rv' s2'.H fun H' => match resVs P ⟨s2'.σ, H', []⟩ fn.results.toList with | some vs => KR θ ι b b' K (.ret (oneV vs)) H' | none => False := by
      intro rv rv' hv hq
      exact laterA_ok hm hc (fun r H q => q.up g1 g2) hv g3 hq
    cases ex <;> cases ex' <;> simp only [ExS] at g4
    · exact fin .nili g5
    · cases g5
    · exact fin .nili g5
    · exact fin g4 g5
  · refine ncall_body hf hb hn' ((codeA_ok hm hc n c _ _ _ hs h).mono ?_)
    rintro ex' s2' ⟨θ2, E2, ι2, ex, s2, g1, g2, g3, g4, g5⟩
    have nil : s2.D = [] → s2'.D = [] := by
      intro hD
      have := g3.ds
      rw [hD] at this
      generalize s2'.D = D3 at this
      cases this; rfl
    have fin : (match s2.D with | [] => endA P fn.results.toList K E2 s2 | _ => false) = true → s2'.D = [] ∧ (match resVs P s2' fn.results.toList with | some vs => KR θ ι b b' K (.ret (oneV vs)) s2'.H | none => False) := by
      intro hq
      split at hq
      · rename_i hD
        refine ⟨nil hD, ?_⟩
        have := endA_ok (P := P) g3 hq
        split at this
        · exact this.up g1 g2
        · exact this.elim
      · cases hq
    cases ex <;> cases ex' <;> simp only [ExS] at g4
    · exact fin g5
    · cases g5
    · exact fin g5
    · simp only [bodyKA] at g5
      split at g5
      · rename_i hD; exact ⟨nil hD, θ2, E2, ι2, .pan _, s2.H, g1, g2, g3.env, g3.hp, g4, g5⟩
      · cases g5

theorem callA_ok (hm : P.follows .mixedOrders = true) {giv : FuncId → Option GivA} (hg : ∀ f c, giv f = some c → GivOk P f c) (still : FuncId → Bool) : ∀ n, CallOkA P (callA P giv still n) := by
  intro n
  induction n with
  | zero => intro E b f args H K h; simp [callA] at h
  | succ n ih =>
    intro E b f args H K h θ ι b' args' H' he hh ha
    simp only [callA] at h
    split at h
    · rename_i c hc; exact hg f c hc E b args H K h θ ι b' args' H' he hh ha
    · split at h
      · cases h
      · rename_i fn hf
        split at h
        · cases h
        · rename_i c hb
          simp only [Bool.and_eq_true, decide_eq_true_eq] at h
          obtain ⟨hn, h⟩ := h
          split at h
          · have hh2 : SbH θ ι H.n H'.n H H' := ⟨hh.n, hh.inj, hh.lt, hh.get, fun i id hi hq => by
              have := (List.getElem?_eq_some_iff.1 hi).1
              rw [hh.n] at hq; omega, Nat.le_refl _, hh.opq⟩
            refine ncall_pure ((runA_ok hm ih hf hb hn he hh2 ha h).mono ?_)
            rintro r' H2' ⟨θ2, E2, ι2, r, H2, g1, g2, g3, g4, g5, g6⟩
            have g6 : (match frzRA H.n H2 r with | some u => K E2 u H | none => false) = true := g6
            split at g6
            · rename_i u hu
              have hfr : Fr θ θ2 ι ι2 H'.n := ⟨g2, hh.lt, fun i id hi hl => g4.base i id hi (by rw [hh.n]; exact hl), (hh.grow g1).opq⟩
              rw [hh.n] at hu
              obtain ⟨u', q1, q2⟩ := frzR_sb g4 hfr g5 hu
              exact ⟨u', q1, θ2, E2, ι, u, H, g1, List.prefix_refl _, g3, hh.grow g1, q2, g6⟩
            · cases g6
          · exact runA_ok hm ih hf hb hn he hh ha h

end
end Go.Ns

/- Ns, part Sp: is what has been reckoned an instance of a pattern? -/
namespace Go.Ns

def addOk (w c n : Int) : Bool :=
  n == w + c && match symI w, symI n with
    | none, none => true
    | some (j, d), some (j', d') => j == j' && d' == d + c
    | _, _ => false

mutual
/-- Is v an instance of the pattern p? u: what the pattern's unknowns are; m: what its blocks are. -/
def matV (u : List V) (m : List Nat) : V → V → Bool
  | .undef, _ => true
  | .bool a, .bool b => a == b
  | .int k n, .int k' n' => k == k' && match symI n with
    | none => n == n' && (symI n').isNone
    | some (i, c) => match u[i]? with | some (.int _ w) => addOk w c n' | _ => false
  | .str a, .str b => decide (a = b)
  | .flt .f32 i, v => match u[i]?, v with
    | some (.bool a), .bool b => a == b
    | some (.flt .f32 a), .flt .f32 b => a == b
    | _, _ => false
  | .flt .f64 i, v => match u[i]? with | some w => againB.sameV w v && noU w && v.cell | none => false
  | .nilp, .nilp => true
  | .ptr i g o, .ptr j g' o' => m[i]? == some j && g == g' && o == o'
  | .fptr cs, .fptr cs' => matVs u m cs cs'
  | .nils, .nils => true
  | .fsl e n cs, .fsl e' n' cs' => e == e' && n == n' && matVs u m cs cs'
  | .hsl i g o n s e c, .hsl j g' o' n' s' e' c' => m[i]? == some j && g == g' && o == o' && n == n' && s == s' && e == e' && c == c'
  | .nilm, .nilm => true
  | .map i, .map j => m[i]? == some j
  | .nilf, .nilf => true
  | .fn f cs, .fn f' cs' => f == f' && matVs u m cs cs'
  | .nili, .nili => true
  | .ifc t v, .ifc t' v' => t == t' && matV u m v v'
  | .agg cs, .agg cs' => matVs u m cs cs'
  | .tup cs, .tup cs' => matVs u m cs cs'
  | _, _ => false
def matVs (u : List V) (m : List Nat) : List V → List V → Bool
  | [], [] => true
  | p :: ps, v :: vs => matV u m p v && matVs u m ps vs
  | _, _ => false
end

section
variable {θ θp : List V} {ι ιp : List Nat} {u : List V} {m : List Nat}

theorem addOk_ok {k k' : IntKind} {w c n x : Int} {v' : V} (h : addOk w c n = true) (hw : Sb θ ι (.int k w) (.int k x)) (hv : Sb θ ι (.int k' n) v') : v' = .int k' (x + c) := by
  unfold addOk at h
  simp only [Bool.and_eq_true, beq_iff_eq] at h
  obtain ⟨rfl, h⟩ := h
  split at h
  · rename_i s1 s2
    cases hw with
    | sym _ _ _ _ _ _ q => rw [s1] at q; cases q
    | int =>
    cases hv with
    | sym _ _ _ _ _ _ q => rw [s2] at q; cases q
    | int => rfl
  · rename_i j d j' d' s1 s2
    simp only [Bool.and_eq_true, beq_iff_eq] at h
    obtain ⟨rfl, rfl⟩ := h
    cases hw with
    | int _ _ q => rw [s1] at q; cases q
    | sym _ _ i1 c1 k1 z1 q1 r1 =>
    rw [s1] at q1; cases q1
    cases hv with
    | int _ _ q => rw [s2] at q; cases q
    | sym _ _ i2 c2 k2 z2 q2 r2 =>
    rw [s2] at q2; cases q2
    rw [r1] at r2; cases r2
    rw [Int.add_assoc]
  · cases h

structure Inst (θ θp : List V) (ι ιp : List Nat) (u : List V) (m : List Nat) : Prop where
  u : SbL θ ι u θp
  m : ∀ (i j : Nat), m[i]? = some j → ∀ id, ι[j]? = some id → ιp[i]? = some id

mutual
theorem matV_ok (h : Inst θ θp ι ιp u m) : ∀ {p v v' : V}, matV u m p v = true → Sb θ ι v v' → Sb θp ιp p v'
  | .undef, _, v', _, _ => .undef v'
  | .bool a, v, v', hm, hv => by
    cases v <;> simp [matV] at hm
    cases hv; rw [hm]; exact .bool _
  | .int k n, v, v', hm, hv => by
    cases v <;> simp only [matV, Bool.false_eq_true] at hm
    rename_i k' n'
    simp only [Bool.and_eq_true, beq_iff_eq] at hm
    obtain ⟨rfl, hm⟩ := hm
    split at hm
    · rename_i s1
      simp only [Bool.and_eq_true, beq_iff_eq] at hm
      obtain ⟨rfl, _⟩ := hm
      cases hv with
      | sym _ _ _ _ _ _ q => rw [s1] at q; cases q
      | int => exact .int _ _ s1
    · rename_i i c s1
      split at hm
      · rename_i k2 w hu
        obtain ⟨uv, q1, q2⟩ := h.u.get i hu
        have : ∃ x, uv = .int k2 x := by
          cases q2
          · exact ⟨_, rfl⟩
          · exact ⟨_, rfl⟩
        obtain ⟨x, rfl⟩ := this
        rw [addOk_ok hm q2 hv]
        exact .sym _ _ _ _ _ _ s1 q1
      · cases hm
  | .str a, v, v', hm, hv => by
    cases v <;> simp [matV] at hm
    subst hm; cases hv; exact .str _
  | .flt .f32 i, v, v', hm, hv => by
    simp only [matV] at hm
    split at hm
    · rename_i a b hu
      simp only [beq_iff_eq] at hm
      subst hm
      obtain ⟨uv, q1, q2⟩ := h.u.get i hu
      cases q2; cases hv
      exact .bsym _ _ q1
    · rename_i a b hu
      simp only [beq_iff_eq] at hm
      subst hm
      obtain ⟨uv, q1, q2⟩ := h.u.get i hu
      cases q2 with
      | bsym _ c r =>
      cases hv with
      | bsym _ c2 r2 =>
      rw [r] at r2; cases r2
      exact .bsym _ _ q1
    · cases hm
  | .flt .f64 i, v, v', hm, hv => by
    simp only [matV] at hm
    split at hm
    · rename_i w hu
      simp only [Bool.and_eq_true] at hm
      obtain ⟨uv, q1, q2⟩ := h.u.get i hu
      have e := sameV_eq _ _ hm.1.1
      subst e
      rw [Sb.det hm.1.2 hv q2]
      exact .opq _ _ q1 (q2.cell hm.2)
    · cases hm
  | .nilp, v, v', hm, hv => by cases v <;> simp [matV] at hm; cases hv; exact .nilp
  | .ptr .., v, v', hm, hv => by
    cases v <;> simp [matV] at hm
    obtain ⟨⟨h1, rfl⟩, rfl⟩ := hm
    cases hv with
    | ptr _ id _ _ hi => exact .ptr _ _ _ _ (h.m _ _ h1 id hi)
  | .fptr cs, v, v', hm, hv => by
    cases v <;> simp [matV] at hm
    cases hv with
    | fptr _ _ q => exact .fptr _ _ (matVs_ok h hm q)
  | .nils, v, v', hm, hv => by cases v <;> simp [matV] at hm; cases hv; exact .nils
  | .fsl .., v, v', hm, hv => by
    cases v <;> simp [matV] at hm
    obtain ⟨⟨rfl, rfl⟩, h1⟩ := hm
    cases hv with
    | fsl _ _ _ _ q => exact .fsl _ _ _ _ (matVs_ok h h1 q)
  | .hsl .., v, v', hm, hv => by
    cases v <;> simp [matV] at hm
    obtain ⟨⟨⟨⟨⟨⟨h1, rfl⟩, rfl⟩, rfl⟩, rfl⟩, rfl⟩, rfl⟩ := hm
    cases hv with
    | hsl _ id _ _ _ _ _ _ hi => exact .hsl _ _ _ _ _ _ _ _ (h.m _ _ h1 id hi)
  | .nilm, v, v', hm, hv => by cases v <;> simp [matV] at hm; cases hv; exact .nilm
  | .map .., v, v', hm, hv => by
    cases v <;> simp [matV] at hm
    cases hv with
    | map _ id hi => exact .map _ _ (h.m _ _ hm id hi)
  | .nilf, v, v', hm, hv => by cases v <;> simp [matV] at hm; cases hv; exact .nilf
  | .fn .., v, v', hm, hv => by
    cases v <;> simp [matV] at hm
    obtain ⟨rfl, h1⟩ := hm
    cases hv with
    | fn _ _ _ q => exact .fn _ _ _ (matVs_ok h h1 q)
  | .nili, v, v', hm, hv => by cases v <;> simp [matV] at hm; cases hv; exact .nili
  | .ifc .., v, v', hm, hv => by
    cases v <;> simp [matV] at hm
    obtain ⟨rfl, h1⟩ := hm
    cases hv with
    | ifc _ _ _ q => exact .ifc _ _ _ (matV_ok h h1 q)
  | .agg cs, v, v', hm, hv => by
    cases v <;> simp [matV] at hm
    cases hv with
    | agg _ _ q => exact .agg _ _ (matVs_ok h hm q)
  | .tup cs, v, v', hm, hv => by
    cases v <;> simp [matV] at hm
    cases hv with
    | tup _ _ q => exact .tup _ _ (matVs_ok h hm q)
theorem matVs_ok (h : Inst θ θp ι ιp u m) : ∀ {ps vs vs' : List V}, matVs u m ps vs = true → SbL θ ι vs vs' → SbL θp ιp ps vs'
  | [], vs, vs', hm, hv => by
    cases vs <;> simp [matVs] at hm
    cases hv; exact .nil
  | p :: ps, vs, vs', hm, hv => by
    cases vs <;> simp [matVs] at hm
    cases hv with
    | cons _ _ _ _ q1 q2 => exact .cons _ _ _ _ (matV_ok h hm.1 q1) (matVs_ok h hm.2 q2)
end

end
end Go.Ns

/- Ns, part Sq: is a heap an instance of a pattern? -/
namespace Go.Ns

def hpL (l : List HObj) : Heap := ⟨l.length, fun i => l[i]?⟩

def matEs (u : List V) (m : List Nat) : List (V × V × Nat) → List (V × V × Nat) → Bool
  | [], [] => true
  | e :: es, e' :: es' => matV u m e.1 e'.1 && matV u m e.2.1 e'.2.1 && e.2.2 == e'.2.2 && matEs u m es es'
  | _, _ => false

def matO (u : List V) (m : List Nat) : HObj → HObj → Bool
  | .cells g cs, .cells g' cs' => g == g' && matVs u m cs cs'
  | .map es c, .map es' c' => c == c' && matEs u m es es'
  | _, _ => false

/-- What a pattern's unknown may be. -/
def domOk (E : Env) (d : Dm) (w : V) : Bool :=
  match d, w with
  | .rng lo hi, .int _ n => match rngI E n with | some (a, b) => decide (lo ≤ a ∧ b ≤ hi) | none => false
  | .inf lo hi _, .int _ n => match rngI E n with | some (a, b) => decide (lo ≤ a ∧ b ≤ hi) | none => false
  | .bool, .bool _ => true
  | .bool, .flt .f32 i => match E[i]? with | some .bool => true | some (.isB _) => true | _ => false
  | .any, .flt .f64 i => match E[i]? with | some .any => true | _ => false
  | .str n, .flt .f64 i => match E[i]? with | some (.str m) => decide (m ≤ n) | _ => false
  | _, _ => false

def domsA (E : Env) : Env → List V → Bool
  | [], [] => true
  | d :: ds, w :: ws => domOk E d w && domsA E ds ws
  | _, _ => false

/-- Is it sure that the first one is not the second one and c? -/
def neD (E : Env) (n m c : Int) : Bool :=
  (match rngI E n, rngI E m with | some (a, b), some (c', d) => decide (b < c' + c ∨ d + c < a) | _, _ => false) ||
  (match symI n, symI m with | some (i, o), some (j, o2) => neK E i j (o2 + c - o) || neK E j i (o - o2 - c) | _, _ => false)

def factOk (E : Env) (u : List V) (d : Dm) (w : V) : Bool :=
  match d with
  | .inf _ _ (.ne j c) => match w, u[j]? with | .int _ n, some (.int _ m) => neD E n m c | _, _ => false
  | .inf _ _ _ => false
  | _ => true

def factsOk (E : Env) (u : List V) : Env → List V → Bool
  | [], [] => true
  | d :: ds, w :: ws => factOk E u d w && factsOk E u ds ws
  | _, _ => false

def domsOk (E : Env) (Ep : Env) (u : List V) : Bool := domsA E Ep u && factsOk E u Ep u

def heapOk (u : List V) (m : List Nat) (H : Heap) : List HObj → List Nat → Bool
  | [], [] => true
  | op :: ops, j :: js => (match H.get j with | some o => matO u m op o | none => false) && heapOk u m H ops js
  | _, _ => false

def inclB (E : Env) (H : Heap) (u : List V) (m : List Nat) (Ep : Env) (Hp : List HObj) : Bool :=
  domsOk E Ep u && heapOk u m H Hp m && decide (m.Nodup) && m.all (fun j => decide (j < H.n))

section
variable {θ θp : List V} {ι ιp : List Nat} {u : List V} {m : List Nat} {E Ep : Env} {H H' : Heap}

theorem domOk_ok (h : EnvOk θ E) {d : Dm} {w : V} (hd : domOk E d w = true) : ∃ w', Sb θ ι w w' ∧ d.ok w' := by
  unfold domOk at hd
  split at hd
  · rename_i lo hi k n
    split at hd
    · rename_i a b hr
      simp only [decide_eq_true_eq] at hd
      have : ∃ w', Sb θ ι (.int k n) w' := by
        unfold rngI at hr
        split at hr
        · rename_i s; exact ⟨_, .int _ _ s⟩
        · rename_i i c s
          split at hr
          · rename_i l v hE
            obtain ⟨x, q1, k2, x2, rfl, _⟩ := h.look hE
            exact ⟨_, .sym _ _ _ _ _ _ s q1⟩
          · rename_i l v f hE
            obtain ⟨x, q1, k2, x2, rfl, _⟩ := h.look hE
            exact ⟨_, .sym _ _ _ _ _ _ s q1⟩
          · cases hr
      obtain ⟨w', hw⟩ := this
      obtain ⟨x, rfl, h1, h2⟩ := rngI_ok h hw hr
      exact ⟨_, hw, k, x, rfl, by omega, by omega⟩
    · cases hd
  · rename_i lo hi _ k n
    split at hd
    · rename_i a b hr
      simp only [decide_eq_true_eq] at hd
      have : ∃ w', Sb θ ι (.int k n) w' := by
        unfold rngI at hr
        split at hr
        · rename_i s; exact ⟨_, .int _ _ s⟩
        · rename_i i c s
          split at hr
          · rename_i l v hE
            obtain ⟨x, q1, k2, x2, rfl, _⟩ := h.look hE
            exact ⟨_, .sym _ _ _ _ _ _ s q1⟩
          · rename_i l v f hE
            obtain ⟨x, q1, k2, x2, rfl, _⟩ := h.look hE
            exact ⟨_, .sym _ _ _ _ _ _ s q1⟩
          · cases hr
      obtain ⟨w', hw⟩ := this
      obtain ⟨x, rfl, h1, h2⟩ := rngI_ok h hw hr
      exact ⟨_, hw, k, x, rfl, by omega, by omega⟩
    · cases hd
  · exact ⟨_, .bool _, _, rfl⟩
  · split at hd
    · rename_i hE
      obtain ⟨x, q1, b, rfl⟩ := h.look hE
      exact ⟨_, .bsym _ _ q1, b, rfl⟩
    · rename_i b hE
      obtain ⟨x, q1, q2⟩ := h.look hE
      simp only [Dm.ok] at q2
      subst q2
      exact ⟨_, .bsym _ _ q1, b, rfl⟩
    · cases hd
  · split at hd
    · rename_i hE
      obtain ⟨x, q1, q2⟩ := h.look hE
      exact ⟨_, .opq _ _ q1 q2, q2⟩
    · cases hd
  · split at hd
    · rename_i m hE
      simp only [decide_eq_true_eq] at hd
      obtain ⟨x, q1, s, rfl, q2⟩ := h.look hE
      exact ⟨_, .opq _ _ q1 rfl, s, rfl, by omega⟩
    · cases hd
  · cases hd

theorem domsA_ok (h : EnvOk θ E) : ∀ {Ep : Env} {u : List V}, domsA E Ep u = true → ∃ θp, SbL θ ι u θp ∧ θp.length = Ep.length ∧ ∀ (i : Nat) (d : Dm) (v : V), Ep[i]? = some d → θp[i]? = some v → d.ok v
  | [], [], _ => ⟨[], .nil, rfl, fun i d v q => by simp at q⟩
  | [], _ :: _, q => by simp [domsA] at q
  | _ :: _, [], q => by simp [domsA] at q
  | d :: ds, w :: ws, q => by
    simp only [domsA, Bool.and_eq_true] at q
    obtain ⟨w', h1, h2⟩ := domOk_ok (ι := ι) h q.1
    obtain ⟨θp, h3, h4, h5⟩ := domsA_ok h q.2
    refine ⟨w' :: θp, .cons _ _ _ _ h1 h3, by simp [h4], fun i d' v p1 p2 => ?_⟩
    cases i with
    | zero => simp at p1 p2; subst p1 p2; exact h2
    | succ i => simp at p1 p2; exact h5 i d' v p1 p2

theorem neD_ok (h : EnvOk θ E) {k k' : IntKind} {n m c x y : Int} (hx : Sb θ ι (.int k n) (.int k x)) (hy : Sb θ ι (.int k' m) (.int k' y)) (hq : neD E n m c = true) : x ≠ y + c := by
  simp only [neD, Bool.or_eq_true] at hq
  rcases hq with hq | hq
  · split at hq
    · rename_i a b c' d r1 r2
      obtain ⟨x', e1, a1, a2⟩ := rngI_ok h hx r1
      obtain ⟨y', e2, b1, b2⟩ := rngI_ok h hy r2
      cases e1; cases e2
      simp only [decide_eq_true_eq] at hq
      omega
    · cases hq
  · split at hq
    · rename_i i o j o2 s1 s2
      cases hx with
      | int _ _ q => rw [s1] at q; cases q
      | sym _ _ i' o' k2 z q hz =>
      rw [s1] at q; cases q
      cases hy with
      | int _ _ q => rw [s2] at q; cases q
      | sym _ _ i'' o'' k3 z' q hz' =>
      rw [s2] at q; cases q
      simp only [Bool.or_eq_true] at hq
      rcases hq with hq | hq
      · have := neK_ok h hq hz hz'; omega
      · have := neK_ok h hq hz' hz; omega
    · cases hq

theorem factsOk_get : ∀ {u0 : List V} {Ep : Env} {u : List V}, factsOk E u0 Ep u = true → ∀ (i : Nat) (d : Dm) (w : V), Ep[i]? = some d → u[i]? = some w → factOk E u0 d w = true
  | _, [], [], _, i, d, w, p, _ => by simp at p
  | _, [], _ :: _, q, _, _, _, _, _ => by simp [factsOk] at q
  | _, _ :: _, [], q, _, _, _, _, _ => by simp [factsOk] at q
  | _, d :: ds, w :: ws, q, i, d', w', p1, p2 => by
    simp only [factsOk, Bool.and_eq_true] at q
    cases i with
    | zero => simp at p1 p2; subst p1 p2; exact q.1
    | succ i => simp at p1 p2; exact factsOk_get q.2 i d' w' p1 p2

theorem domsOk_ok (h : EnvOk θ E) {Ep : Env} {u : List V} (hq : domsOk E Ep u = true) : ∃ θp, SbL θ ι u θp ∧ EnvOk θp Ep := by
  simp only [domsOk, Bool.and_eq_true] at hq
  obtain ⟨θp, h1, h2, h3⟩ := domsA_ok (ι := ι) h hq.1
  refine ⟨θp, h1, h2, h3, fun i lo hi f v p1 p2 => ?_⟩
  have hl := h1.length
  have hi2 : i < u.length := by
    have := (List.getElem?_eq_some_iff.1 p2).1
    rw [← hl]; exact this
  have hu := List.getElem?_eq_getElem hi2
  have hf := factsOk_get hq.2 i _ _ p1 hu
  obtain ⟨v2, a1, a2⟩ := h1.get i hu
  rw [p2] at a1; cases a1
  unfold factOk at hf
  split at hf
  · rename_i lo' hi' j c q
    cases q
    split at hf
    · rename_i k n k' m q1 q2
      rw [q1] at a2
      intro k2 x e
      subst e
      obtain ⟨v3, b1, b2⟩ := h1.get j q2
      have ek : k2 = k := by cases a2 <;> rfl
      subst ek
      obtain ⟨y, rfl⟩ : ∃ y, v3 = .int k' y := by
        cases b2
        · exact ⟨_, rfl⟩
        · exact ⟨_, rfl⟩
      exact ⟨k', y, b1, neD_ok h a2 b2 hf⟩
    · cases hf
  · cases hf
  · rename_i q1 q2
    exact (q2 _ _ _ rfl).elim

theorem matEs_ok (h : Inst θ θp ι ιp u m) : ∀ {ps es es' : List (V × V × Nat)}, matEs u m ps es = true → EsR θ ι es es' → EsR θp ιp ps es'
  | [], es, es', hm, hv => by
    cases es <;> simp [matEs] at hm
    cases hv; exact .nil
  | (p1, p2, n) :: ps, es, es', hm, hv => by
    cases es with
    | nil => simp [matEs] at hm
    | cons e es =>
      obtain ⟨e1, e2, n2⟩ := e
      simp only [matEs, Bool.and_eq_true, beq_iff_eq] at hm
      obtain ⟨⟨⟨h1, h2⟩, rfl⟩, h3⟩ := hm
      cases hv with
      | cons _ _ _ _ _ _ _ q1 q2 q3 => exact .cons _ _ _ _ _ _ _ (matV_ok h h1 q1) (matV_ok h h2 q2) (matEs_ok h h3 q3)

theorem matO_ok (h : Inst θ θp ι ιp u m) {op o o' : HObj} (hm : matO u m op o = true) (ho : SbO θ ι o o') : SbO θp ιp op o' := by
  cases op <;> cases o <;> simp only [matO, Bool.false_eq_true, Bool.and_eq_true, beq_iff_eq] at hm
  · cases o' <;> simp only [SbO] at ho ⊢
    obtain ⟨rfl, h2⟩ := hm
    exact ⟨ho.1, matVs_ok h h2 ho.2⟩
  · cases o' <;> simp only [SbO] at ho ⊢
    obtain ⟨rfl, h2⟩ := hm
    exact ⟨ho.1, matEs_ok h h2 ho.2⟩

theorem heapOk_get : ∀ {ops : List HObj} {js : List Nat}, heapOk u m H ops js = true → js.length = ops.length ∧ ∀ (i j : Nat) (op : HObj), js[i]? = some j → ops[i]? = some op → ∃ o, H.get j = some o ∧ matO u m op o = true
  | [], [], _ => ⟨rfl, fun i j op h => by simp at h⟩
  | [], _ :: _, q => by simp [heapOk] at q
  | _ :: _, [], q => by simp [heapOk] at q
  | op :: ops, j :: js, q => by
    simp only [heapOk, Bool.and_eq_true] at q
    obtain ⟨h1, h2⟩ := heapOk_get q.2
    refine ⟨by simp [h1], fun i j' op' p1 p2 => ?_⟩
    cases i with
    | zero =>
      simp at p1 p2
      subst p1 p2
      have := q.1
      split at this
      · rename_i o ho; exact ⟨o, ho, this⟩
      · cases this
    | succ i => simp at p1 p2; exact h2 i j' op' p1 p2

theorem inclB_ok (he : EnvOk θ E) (hh : SbH θ ι 0 0 H H') {Hp : List HObj} (h : inclB E H u m Ep Hp = true) (hlow : ∀ θp, SbL θ ι u θp → ∀ (i : Nat) (v : V), θp[i]? = some v → belowV H'.n v = true) :
    ∃ θp ιp, EnvOk θp Ep ∧ SbH θp ιp 0 0 (hpL Hp) H' ∧ Inst θ θp ι ιp u m := by
  simp only [inclB, Bool.and_eq_true, decide_eq_true_eq, List.all_eq_true] at h
  obtain ⟨⟨⟨h1, h2⟩, h3⟩, h4⟩ := h
  obtain ⟨θp, q1, q2⟩ := domsOk_ok (ι := ι) he h1
  obtain ⟨g1, g2⟩ := heapOk_get h2
  have hmi : ∀ (i j : Nat), m[i]? = some j → ∀ id, ι[j]? = some id → (m.map fun j => ι.getD j 0)[i]? = some id := by
    intro i j hi id hid
    rw [List.getElem?_map, hi]
    simp [List.getD_eq_getElem?_getD, hid]
  have hlt : ∀ (i j : Nat), m[i]? = some j → ∃ id, ι[j]? = some id := by
    intro i j hi
    have := h4 j (List.mem_of_getElem? hi)
    rw [hh.n] at this
    exact ⟨ι[j], by simp [this]⟩
  have hinv : ∀ (i id : Nat), (m.map fun j => ι.getD j 0)[i]? = some id → ∃ j, m[i]? = some j ∧ ι[j]? = some id := by
    intro i id hi
    rw [List.getElem?_map, Option.map_eq_some_iff] at hi
    obtain ⟨j, p1, p2⟩ := hi
    obtain ⟨id', p3⟩ := hlt i j p1
    refine ⟨j, p1, ?_⟩
    rw [List.getD_eq_getElem?_getD, p3] at p2
    simp at p2
    rw [p3, p2]
  have inst : Inst θ θp ι (m.map fun j => ι.getD j 0) u m := ⟨q1, hmi⟩
  refine ⟨θp, m.map fun j => ι.getD j 0, q2, ⟨by simp [hpL, g1], ?_, ?_, ?_, fun _ _ _ _ => Nat.zero_le _, Nat.zero_le _, hlow θp q1⟩, inst⟩
  · intro i j id p1 p2
    obtain ⟨a, a1, a2⟩ := hinv i id p1
    obtain ⟨c, c1, c2⟩ := hinv j id p2
    have := hh.inj a c id a2 c2
    subst this
    have hi := (List.getElem?_eq_some_iff.1 a1).1
    exact (List.getElem?_inj hi h3).1 (by rw [a1, c1])
  · intro i id p
    obtain ⟨j, _, p2⟩ := hinv i id p
    exact hh.lt j id p2
  · intro i id o p1 p2
    obtain ⟨j, a1, a2⟩ := hinv i id p1
    simp only [hpL] at p2
    obtain ⟨o1, b1, b2⟩ := g2 i j o a1 p2
    obtain ⟨o', c1, c2⟩ := hh.get j id o1 a2 b1
    exact ⟨o', c1, matO_ok inst b2 c2⟩

end
end Go.Ns

/- Ns, part Wa: code in stages: points of a body, what is behind a point, and the reckoner that stops at points. -/
namespace Go.Ns

def childC : Option Code → Nat → Option Code
  | some (.seq x _), 0 => some x
  | some (.seq _ y), 1 => some y
  | some (.block _ c), 0 => some c
  | some (.loop c), 0 => some c
  | some (.cond _ x _), 0 => some x
  | some (.cond _ _ y), 1 => some y
  | _, _ => none

/-- The code at a point; a point is the way to it from the root, the last step first. -/
def atR (c0 : Code) : List Nat → Option Code
  | [] => some c0
  | k :: p => childC (atR c0 p) k

def stepQ (P : Program) (base N : Nat) : Option Code → Nat → (Ex → S → Prop) → Ex → S → Prop
  | some (.seq _ y), 0, Q => thenQ (NWp P base N y Q) Q
  | some (.block id _), 0, Q => blockQ id Q
  | some (.loop c), 0, Q => thenQ (NWp P base N (.loop c) Q) Q
  | _, _, Q => Q

/-- What is demanded when the code at a point has come to its end. -/
def upQ (P : Program) (base N : Nat) (c0 : Code) (Q : Ex → S → Prop) : List Nat → Ex → S → Prop
  | [] => Q
  | k :: p => stepQ P base N (atR c0 p) k (upQ P base N c0 Q p)

/-- What is demanded ahead of a point. -/
def AtP (P : Program) (base N : Nat) (c0 : Code) (Q : Ex → S → Prop) (p : List Nat) (s : S) : Prop :=
  match atR c0 p with
  | some c => NWp P base N c (upQ P base N c0 Q p) s
  | none => False

theorem exitTo_len {id : Nat} : ∀ {k k' : List Item}, exitTo id k = some k' → k'.length < k.length
  | [], k', h => by simp [exitTo] at h
  | x :: k, k', h => by
    cases x <;> simp only [exitTo] at h <;> first | (have := exitTo_len h; simp only [List.length_cons]; omega) | skip
    split at h
    · cases h; simp
    · have := exitTo_len h; simp only [List.length_cons]; omega

theorem steps_tail {P : Program} {m m1 m2 : Machine} (h : step P m = .next m1) (hn : m2 ≠ m) (h' : Steps P m m2) : Steps P m1 m2 := by
  obtain ⟨n, hn'⟩ := h'
  cases n with
  | zero => simp [runN] at hn'; exact (hn hn'.symm).elim
  | succ n => simp only [runN, h] at hn'; exact ⟨n, hn'⟩

theorem lone_todo {fr fr' : Frame} {cs cs' : List Frame} {w w' : World} (h : lone fr cs w = lone fr' cs' w') : fr = fr' := by
  simp [lone] at h
  exact h.2.1

theorem nwp_unroll {P : Program} {base N : Nat} {c : Code} {Q : Ex → S → Prop} {s : S} (h : NWp P base N c (thenQ (NWp P base N (.loop c) Q) Q) s) : NWp P base N (.loop c) Q s := by
  intro X a hrel b k cs
  obtain ⟨e, a1, w1, ⟨ex, s1, X1, rfl, hex, hq, hr1, he1, hl1⟩, harr⟩ := h X a hrel b (.inLoop c :: k) cs
  have : ∃ e a2 w2, (∃ ex s2 X2, X2.w = w2 ∧ ExR X2 e ex ∧ Q ex s2 ∧ Rel base N X2 s2 a2 ∧ Ext base X X2 ∧ Low base s.H s2.H) ∧
      Arrives P (lone (b.at a (.code c :: .inLoop c :: k)) cs X.w) b k cs e a2 w2 := by
    cases e <;> cases ex <;> simp only [ExR] at hex
    · obtain ⟨e2, a2, w2, ⟨ex2, s2, X2, rfl, hex2, hq2, hr2, he2, hl2⟩, harr2⟩ := hq X1 a1 hr1 b k cs
      have key : Arrives P (lone (b.at a1 (.code c :: .inLoop c :: k)) cs X1.w) b k cs e2 a2 X2.w := by
        cases e2 with
        | normal => exact steps_tail step_loop (fun q => by have := lone_todo q; simp [Frame.at] at this) harr2
        | exit id => exact fun k' hk => steps_tail step_loop (fun q => by
            have := lone_todo q
            simp only [Frame.at, Frame.mk.injEq] at this
            have hl := exitTo_len hk
            have h3 := congrArg List.length this.2.2.1
            simp at h3; omega) (harr2 k' hk)
        | ret => obtain ⟨todo, ht⟩ := harr2; exact ⟨todo, steps_tail step_loop (fun q => by have := lone_todo q; simp [Frame.at] at this) ht⟩
        | panic ch => obtain ⟨todo, ht⟩ := harr2; exact ⟨todo, steps_tail step_loop (fun q => by have := lone_todo q; simp [Frame.at] at this) ht⟩
        | goto l => cases ex2 <;> simp only [ExR] at hex2
        | outgrown => cases ex2 <;> simp only [ExR] at hex2
      exact ⟨e2, a2, _, ⟨ex2, s2, X2, rfl, hex2, hq2, hr2, he1.trans he2, hl1.trans hl2⟩, .of_steps (Steps.trans harr (.one step_inLoop)) key⟩
    · exact ⟨.exit _, a1, _, ⟨.exit _, s1, X1, rfl, hex, hq, hr1, he1, hl1⟩, .pass (x := .inLoop c) rfl (fun _ _ => .inl (by simp)) harr⟩
    · exact ⟨.ret, a1, _, ⟨.ret, s1, X1, rfl, trivial, hq, hr1, he1, hl1⟩, .pass (x := .inLoop c) rfl (fun _ _ => .inl (by simp)) harr⟩
    · exact ⟨.panic _, a1, _, ⟨.pan _, s1, X1, rfl, hex, hq, hr1, he1, hl1⟩, .pass (x := .inLoop c) rfl (fun _ _ => .inl (by simp)) harr⟩
  obtain ⟨e, a2, w2, hq, harr⟩ := this
  exact ⟨e, a2, w2, hq, .of_steps (.one step_loop) harr⟩

/-- Are there stops at or below a point? -/
def deepB (cuts : List (List Nat)) (p : List Nat) : Bool := cuts.any fun q => decide (p.length ≤ q.length) && (q.drop (q.length - p.length) == p)

/-- From a point on, up to the next stops or to the end. 'none': ahead of the point; 'some ex': the point's code has come to its end. -/
def goA (P : Program) (call : CallA) (b N : Nat) (c0 : Code) (cuts : List (List Nat)) (Kc : List Nat → Env → S → Bool) (K : Env → Ex → S → Bool) : Nat → Bool → List Nat → Option Ex → Env → S → Bool
  | 0, _, _, _, _, _ => false
  | n + 1, fresh, p, none, E, s =>
    if (fresh && cuts.contains p) = true then Kc p E s else
    match atR c0 p with
    | none => false
    | some c => match c, deepB cuts p with
      | .seq _ _, true => goA P call b N c0 cuts Kc K n true (0 :: p) none E s
      | .block _ _, true => goA P call b N c0 cuts Kc K n true (0 :: p) none E s
      | .loop _, true => goA P call b N c0 cuts Kc K n true (0 :: p) none E s
      | .cond x _ _, true => boolA E (ρA E s.σ x) fun E t => goA P call b N c0 cuts Kc K n true ((if t = true then 0 else 1) :: p) none E s
      | c, _ => codeA P call b N n c E s fun E ex s => goA P call b N c0 cuts Kc K n true p (some ex) E s
  | n + 1, _, p, some ex, E, s =>
    match p with
    | [] => K E ex s
    | k :: p => match atR c0 p, k, ex with
      | some (.seq _ _), 0, .normal => goA P call b N c0 cuts Kc K n true (1 :: p) none E s
      | some (.block id _), 0, .exit i => if i = id then goA P call b N c0 cuts Kc K n true p (some .normal) E s else goA P call b N c0 cuts Kc K n true p (some (.exit i)) E s
      | some (.loop _), 0, .normal => goA P call b N c0 cuts Kc K n true p none E s
      | some _, _, ex => goA P call b N c0 cuts Kc K n true p (some ex) E s
      | none, _, _ => false

section
variable {P : Program} {call : CallA} {b b' N : Nat} {c0 : Code} {cuts : List (List Nat)} {Kc : List Nat → Env → S → Bool} {K : Env → Ex → S → Bool} {Q : Ex → S → Prop}

theorem goA_ok (hm : P.follows .mixedOrders = true) (hc : CallOkA P call)
    (hcut : ∀ (p : List Nat) (θ : List V) (ι : List Nat) (E : Env) (s s' : S), cuts.contains p = true → StS θ ι b b' E s s' → Kc p E s = true → AtP P b' N c0 Q p s')
    (hK : ∀ (θ : List V) (ι : List Nat) (E : Env) (ex ex' : Ex) (s s' : S), StS θ ι b b' E s s' → ExS θ ι ex ex' → K E ex s = true → Q ex' s') :
    ∀ (n : Nat) (fresh : Bool) (p : List Nat) (θ : List V) (ι : List Nat) (E : Env) (s s' : S), StS θ ι b b' E s s' →
      (goA P call b N c0 cuts Kc K n fresh p none E s = true → AtP P b' N c0 Q p s') ∧
      (∀ ex ex', ExS θ ι ex ex' → (∃ c, atR c0 p = some c) → goA P call b N c0 cuts Kc K n fresh p (some ex) E s = true → upQ P b' N c0 Q p ex' s') := by
  intro n
  induction n with
  | zero => intro fresh p θ ι E s s' hs; exact ⟨fun h => by simp [goA] at h, fun ex ex' _ _ h => by simp [goA] at h⟩
  | succ n ih =>
    intro fresh p θ ι E s s' hs
    constructor
    · intro h
      simp only [goA] at h
      split at h
      · rename_i q
        simp only [Bool.and_eq_true] at q
        exact hcut p θ ι E s s' q.2 hs h
      · split at h
        · cases h
        · rename_i c hat
          unfold AtP
          rw [hat]
          simp only
          have leaf : codeA P call b N n c E s (fun E ex s => goA P call b N c0 cuts Kc K n true p (some ex) E s) = true → NWp P b' N c (upQ P b' N c0 Q p) s' := by
            intro h
            refine (codeA_ok hm hc n c s s' _ hs h).mono ?_
            rintro ex' s2' ⟨θ2, E2, ι2, ex, s2, g1, g2, g3, g4, g5⟩
            exact (ih true p θ2 ι2 E2 s2 s2' g3).2 ex ex' g4 ⟨c, hat⟩ g5
          split at h
          · have := (ih true (0 :: p) θ ι E s s' hs).1 h
            simp only [AtP, atR, hat, childC, upQ, stepQ] at this
            exact nwp_seq this
          · have := (ih true (0 :: p) θ ι E s s' hs).1 h
            simp only [AtP, atR, hat, childC, upQ, stepQ] at this
            exact nwp_block this
          · have := (ih true (0 :: p) θ ι E s s' hs).1 h
            simp only [AtP, atR, hat, childC, upQ, stepQ] at this
            exact nwp_unroll this
          · rename_i x c1 c2 _
            obtain ⟨t, E2, q1, q2, q3⟩ := boolA_ok hs.env (ρA_ok hs x) h
            have := (ih true _ θ ι E2 s s' ⟨q2, hs.tm, hs.hp, hs.ds⟩).1 q3
            refine nwp_cond q1 ?_
            cases t with
            | true => simpa only [if_true, AtP, atR, hat, childC, upQ, stepQ] using this
            | false => simpa only [Bool.false_eq_true, if_false, AtP, atR, hat, childC, upQ, stepQ] using this
          · exact leaf h
    · intro ex ex' hex hat h
      simp only [goA] at h
      cases p with
      | nil => exact hK θ ι E ex ex' s s' hs hex h
      | cons k p =>
        obtain ⟨c, hat⟩ := hat
        simp only at h
        simp only [upQ]
        cases hp : atR c0 p with
        | none => simp [atR, hp, childC] at hat
        | some cp =>
          have up : ∀ ex ex', ExS θ ι ex ex' → goA P call b N c0 cuts Kc K n true p (some ex) E s = true → upQ P b' N c0 Q p ex' s' := fun ex ex' h1 h2 => (ih true p θ ι E s s' hs).2 ex ex' h1 ⟨cp, hp⟩ h2
          rw [hp] at h
          simp only [atR, hp] at hat
          cases cp with
          | seq x y =>
            match k, hat with
            | 0, _ =>
              cases ex <;> cases ex' <;> simp only [ExS] at hex
              · have := (ih true (1 :: p) θ ι E s s' hs).1 (by simpa using h)
                simpa only [AtP, atR, hp, childC, upQ, stepQ, thenQ] using this
              · exact up (.exit _) (.exit _) hex (by simpa using h)
              · exact up .ret .ret trivial (by simpa using h)
              · exact up (.pan _) (.pan _) hex (by simpa using h)
            | 1, _ => exact up ex ex' hex (by simpa using h)
          | block id c2 =>
            match k, hat with
            | 0, _ =>
              cases ex <;> cases ex' <;> simp only [ExS] at hex
              · exact up .normal .normal trivial (by simpa using h)
              · subst hex
                simp only [stepQ, blockQ]
                simp only at h
                split at h
                · rename_i q; rw [if_pos q]; exact up .normal .normal trivial h
                · rename_i q; rw [if_neg q]; exact up (.exit _) (.exit _) rfl h
              · exact up .ret .ret trivial (by simpa using h)
              · exact up (.pan _) (.pan _) hex (by simpa using h)
          | loop c2 =>
            match k, hat with
            | 0, _ =>
              cases ex <;> cases ex' <;> simp only [ExS] at hex
              · have := (ih true p θ ι E s s' hs).1 (by simpa using h)
                simpa only [AtP, hp, stepQ, thenQ] using this
              · exact up (.exit _) (.exit _) hex (by simpa using h)
              · exact up .ret .ret trivial (by simpa using h)
              · exact up (.pan _) (.pan _) hex (by simpa using h)
          | cond x c1 c2 =>
            match k, hat with
            | 0, _ => exact up ex ex' hex (by simpa using h)
            | 1, _ => exact up ex ex' hex (by simpa using h)
          | _ => simp [childC] at hat

end

/-! ### Patterns of a state -/
structure Pat where
  E : Env
  tm : List V
  H : List HObj

def Pat.st (q : Pat) : S := ⟨fun t => q.tm.getD t .undef, hpL q.H, []⟩

abbrev Fit := List (Option V) × List (Option Nat)

def putU (l : List (Option V)) (i : Nat) (v : V) : List (Option V) := match l[i]? with | some none => l.set i (some v) | _ => l
def putM (l : List (Option Nat)) (i j : Nat) : List (Option Nat) := match l[i]? with | some none => l.set i (some j) | _ => l

mutual
def fpV (st : Fit) : V → V → Fit
  | .int _ n, .int k' n' => match symI n with | some (i, c) => (putU st.1 i (.int k' (n' - c)), st.2) | none => st
  | .flt .f32 i, v => (putU st.1 i v, st.2)
  | .flt .f64 i, v => (putU st.1 i v, st.2)
  | .ptr i _ _, .ptr j _ _ => (st.1, putM st.2 i j)
  | .fptr cs, .fptr cs' => fpVs st cs cs'
  | .fsl _ _ cs, .fsl _ _ cs' => fpVs st cs cs'
  | .hsl i _ _ _ _ _ _, .hsl j _ _ _ _ _ _ => (st.1, putM st.2 i j)
  | .map i, .map j => (st.1, putM st.2 i j)
  | .fn _ cs, .fn _ cs' => fpVs st cs cs'
  | .ifc _ v, .ifc _ v' => fpV st v v'
  | .agg cs, .agg cs' => fpVs st cs cs'
  | .tup cs, .tup cs' => fpVs st cs cs'
  | _, _ => st
def fpVs (st : Fit) : List V → List V → Fit
  | p :: ps, v :: vs => fpVs (fpV st p v) ps vs
  | _, _ => st
end

def fpEs (st : Fit) : List (V × V × Nat) → List (V × V × Nat) → Fit
  | e :: es, e' :: es' => fpEs (fpV (fpV st e.1 e'.1) e.2.1 e'.2.1) es es'
  | _, _ => st

def fpO (st : Fit) : HObj → HObj → Fit
  | .cells _ cs, .cells _ cs' => fpVs st cs cs'
  | .map es _, .map es' _ => fpEs st es es'
  | _, _ => st

def fpH (H : Heap) : Fit → Nat → List HObj → Fit
  | st, _, [] => st
  | st, i, o :: os => match st.2[i]? with
    | some (some j) => match H.get j with
      | some o' => fpH H (fpO st o o') (i + 1) os
      | none => st
    | _ => st

def dfltU : Dm → Option V → V
  | _, some v => v
  | .rng lo _, none => .int .i64 lo
  | .bool, none => .bool false
  | _, none => .undef

def dfltUs : Env → List (Option V) → List V
  | d :: ds, u :: us => dfltU d u :: dfltUs ds us
  | _, _ => []

def regsOf (E : Env) (σ : Nat → V) : Nat → List V → List V
  | _, [] => []
  | t, p :: ps => (match p with | .undef => .undef | _ => nrm E (σ t)) :: regsOf E σ (t + 1) ps

def uPlain : V → Bool
  | .int .. | .bool _ | .flt .. => true
  | _ => false

/-- Is a state an instance of a pattern? -/
def fitB (E : Env) (s : S) (q : Pat) : Bool :=
  (match s.D with | [] => true | _ => false) &&
  (let rs := regsOf E s.σ 0 q.tm
   let st := fpH s.H (fpVs (q.E.map fun _ => none, q.H.map fun _ => none) q.tm rs) 0 q.H
   let u := dfltUs q.E st.1
   let m := st.2.map fun x => x.getD 0
   u.all uPlain && inclB E s.H u m q.E q.H && matVs u m q.tm rs)

section
variable {θ : List V} {ι : List Nat} {E : Env} {s s' : S} {q : Pat}

theorem regsOf_sb (hs : StS θ ι 0 0 E s s') : ∀ (ps : List V) (t : Nat), SbL θ ι (regsOf E s.σ t ps) (ps.mapIdx fun i _ => s'.σ (t + i))
  | [], t => by simpa [regsOf] using SbL.nil
  | p :: ps, t => by
    simp only [regsOf, List.mapIdx_cons, Nat.add_zero]
    refine .cons _ _ _ _ ?_ ?_
    · split
      · exact .undef _
      · exact nrm_ok hs.env (hs.tm t)
    · have := regsOf_sb hs ps (t + 1)
      simpa [Nat.add_assoc, Nat.add_comm 1] using this

theorem fit_ok (hs : StS θ ι 0 0 E s s') (h : fitB E s q = true) : ∃ θp ιp, StS θp ιp 0 0 q.E q.st s' := by
  simp only [fitB, Bool.and_eq_true] at h
  generalize fpH s.H (fpVs (q.E.map fun _ => none, q.H.map fun _ => none) q.tm (regsOf E s.σ 0 q.tm)) 0 q.H = st at h
  generalize dfltUs q.E st.1 = u at h
  generalize (st.2.map fun x => x.getD 0) = m at h
  obtain ⟨hD, ⟨hp, hi⟩, hm⟩ := h
  have hlow : ∀ θp, SbL θ ι u θp → ∀ (i : Nat) (v : V), θp[i]? = some v → belowV s'.H.n v = true := by
    intro θp hu i v hv
    have hl := hu.length
    have hlt := (List.getElem?_eq_some_iff.1 hv).1
    have hi2 : i < u.length := by rw [← hl]; exact hlt
    obtain ⟨v2, a1, a2⟩ := hu.get i (List.getElem?_eq_getElem hi2)
    rw [hv] at a1; cases a1
    have hpl := List.all_eq_true.1 hp u[i] (List.getElem_mem hi2)
    generalize u[i] = w at a2 hpl
    cases a2 <;> first | rfl | (simp [uPlain] at hpl; done) | skip
    rename_i j h1 h2
    exact hs.hp.opq j _ h1
  obtain ⟨θp, ιp, k1, k2, k3⟩ := inclB_ok hs.env hs.hp hi hlow
  refine ⟨θp, ιp, k1, fun t => ?_, k2, ?_⟩
  · have hr := matVs_ok k3 hm (regsOf_sb hs q.tm 0)
    simp only [Pat.st, List.getD_eq_getElem?_getD]
    cases hq : q.tm[t]? with
    | none => exact .undef _
    | some v =>
      obtain ⟨v', a1, a2⟩ := hr.get t hq
      simp only [Option.getD_some]
      have hlt := (List.getElem?_eq_some_iff.1 hq).1
      rw [List.getElem?_mapIdx, hq] at a1
      simp at a1
      subst a1
      exact a2
  · have := hs.ds
    split at hD
    · rename_i hd
      rw [hd] at this
      simp only [Pat.st]
      generalize s'.D = D' at this
      cases this
      exact .nil
    · cases hD

end
end Go.Ns

/- Ns, part Wb: stations: a law's body from station to station, to its end. -/
namespace Go.Ns

/-- A point of a body, and what is known there. -/
structure Stn where
  p : List Nat
  q : Pat

def lawB (r : Nat) : Env → Ex → S → Bool
  | E, .normal, s => (match s.D with | [] => true | _ => false) && (match nrm E (s.σ r) with | .bool true => true | _ => false)
  | E, .ret, s => (match s.D with | [] => true | _ => false) && (match nrm E (s.σ r) with | .bool true => true | _ => false)
  | _, _, _ => false

def trueQ (r : Nat) : Ex → S → Prop
  | .normal, s => s.D = [] ∧ s.σ r = .bool true
  | .ret, s => s.D = [] ∧ s.σ r = .bool true
  | _, _ => False

def stageB (P : Program) (call : CallA) (N : Nat) (c0 : Code) (r n : Nat) (a : Stn) (to : List Stn) : Bool :=
  goA P call 0 N c0 (to.map fun t => t.p) (fun p E s => to.any fun t => (t.p == p) && fitB E s t.q) (lawB r) n false a.p none a.q.E a.q.st

def Good (P : Program) (N : Nat) (c0 : Code) (r : Nat) (t : Stn) : Prop :=
  ∀ (θ : List V) (ι : List Nat) (s' : S), StS θ ι 0 0 t.q.E t.q.st s' → AtP P 0 N c0 (trueQ r) t.p s'

section
variable {P : Program} {call : CallA} {N : Nat} {c0 : Code} {r n : Nat}

theorem stage_ok (hm : P.follows .mixedOrders = true) (hc : CallOkA P call) {a : Stn} {to : List Stn} (h : stageB P call N c0 r n a to = true) (ht : ∀ t ∈ to, Good P N c0 r t) : Good P N c0 r a := by
  intro θ ι s' hs
  refine (goA_ok hm hc ?_ ?_ n false a.p θ ι _ _ s' hs).1 h
  · intro p θ2 ι2 E s s2 _ hs2 hk
    simp only [List.any_eq_true, Bool.and_eq_true, beq_iff_eq] at hk
    obtain ⟨t, h1, rfl, h2⟩ := hk
    obtain ⟨θp, ιp, h3⟩ := fit_ok hs2 h2
    exact ht t h1 θp ιp s2 h3
  · intro θ2 ι2 E ex ex' s s2 hs2 hex hk
    have fin : ((match s.D with | [] => true | _ => false) && (match nrm E (s.σ r) with | .bool true => true | _ => false)) = true → s2.D = [] ∧ s2.σ r = .bool true := by
      intro q
      simp only [Bool.and_eq_true] at q
      obtain ⟨q1, q2⟩ := q
      constructor
      · have hd := hs2.ds
        split at q1
        · rename_i e
          rw [e] at hd
          generalize s2.D = D at hd
          cases hd; rfl
        · cases q1
      · have hv := nrm_ok hs2.env (hs2.tm r)
        split at q2
        · rename_i e
          rw [e] at hv
          generalize s2.σ r = v at hv
          cases hv; rfl
        · cases q2
    cases ex <;> cases ex' <;> simp only [ExS] at hex <;> simp only [lawB, Bool.false_eq_true] at hk
    · exact fin hk
    · exact fin hk

theorem law_ok {f : FuncId} {fn : Func} {c : Code} {args : List V} {θ : List V} {ι : List Nat} {q : Pat} (hf : P.funcs[f]? = some fn) (hb : fn.body = some c) (hr : fn.results = #[.tmp r]) (hn : args.length ≤ fn.ntmps)
    (hG : Good P fn.ntmps c r ⟨[], q⟩) (hs : StS θ ι 0 0 q.E q.st ⟨σ0 args, E0, []⟩) : NCall P 0 f args E0 fun e _ => e = .ret (.bool true) := by
  refine ncall_body hf hb hn ?_
  have h := hG θ ι _ hs
  simp only [AtP, atR, upQ] at h
  refine h.mono fun ex s hq => ?_
  cases ex <;> simp only [trueQ] at hq
  · simp only [bodyQ, hr, resVs, resV, Option.bind_some, Option.map_some, oneV, hq.2, hq.1, and_self]
  · simp only [bodyQ, hr, resVs, resV, Option.bind_some, Option.map_some, oneV, hq.2, hq.1, and_self]

/-- An unknown of few values: one station each. -/
def atV (a : Stn) (i : Nat) (v : Int) : Stn := ⟨a.p, ⟨a.q.E.set i (.rng v v), a.q.tm, a.q.H⟩⟩

theorem split_ok {a : Stn} {i : Nat} {lo hi : Int} (hE : a.q.E[i]? = some (.rng lo hi)) (h : ∀ v, lo ≤ v → v ≤ hi → Good P N c0 r (atV a i v)) : Good P N c0 r a := by
  intro θ ι s' hs
  obtain ⟨w, q1, k, x, rfl, h1, h2⟩ := hs.env.look hE
  refine h x h1 h2 θ ι s' ⟨hs.env.set fun v hv => ?_, hs.tm, hs.hp, hs.ds⟩
  rw [q1] at hv; cases hv
  exact ⟨k, x, rfl, Int.le_refl _, Int.le_refl _⟩

/-! ### A closed call, given whatever the heap is -/
def isRet (v : V) : Env → Res → Heap → Bool
  | _, .ret u, _ => againB.sameV u v
  | _, _, _ => false

def constG (v : V) : GivA := fun E _ args H K => match args with | [] => K E (.ret v) H | _ => false

theorem const_ok (hm : P.follows .mixedOrders = true) (hc : CallOkA P call) {f : FuncId} {fn : Func} {c : Code} {v : V} (hv : plainV v = true) (hf : P.funcs[f]? = some fn) (hb : fn.body = some c)
    (h : runA P call n 0 fn c [] [] E0 (isRet v) = true) : GivOk P f (constG v) := by
  intro E b args H K hk θ ι b' args' H' he hh ha
  cases ha with
  | cons => simp [constG] at hk
  | nil =>
    simp only [constG] at hk
    have he0 : EnvOk [] [] := ⟨rfl, fun i d v q => by simp at q, fun i lo hi f v q => by simp at q⟩
    have hh0 : SbH [] [] 0 H'.n E0 H' := ⟨rfl, fun i j id q => by simp at q, fun i id q => by simp at q, fun i id o q => by simp at q, fun i id q => by simp at q, Nat.le_refl _, fun i v q => by simp at q⟩
    have := runA_ok hm hc hf hb (Nat.zero_le _) he0 hh0 .nil h
    refine ncall_pure (this.mono ?_)
    rintro r' H2' ⟨θ2, E2, ι2, r2, H2, g1, g2, g3, g4, g5, g6⟩
    cases r2 with
    | pan => simp [isRet] at g6
    | ret u =>
      have e := sameV_eq _ _ (by simpa [isRet] using g6)
      subst e
      cases r' with
      | pan => simp [ResS] at g5
      | ret w =>
        simp only [ResS] at g5
        have hw : w = u := by
          have := Sb.plain (θ := θ2) (ι := ι2) hv
          refine Sb.det ?_ g5 this
          cases u <;> simp [plainV] at hv <;> rfl
        subst hw
        refine ⟨.ret w, ?_, θ, E, ι, .ret w, H, .refl _, List.prefix_refl _, he, hh, Sb.plain hv, hk⟩
        cases w <;> simp [plainV] at hv <;> simp [frzR, frz, belowV]

end
end Go.Ns

