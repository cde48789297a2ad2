/- A logic of the model's calls, part 4. -/
import Derived.Test.YtcmmbhfdgkkdaaaGreatDoorNs3
import Derived.OpenShut
/- Ns, part Sa: abstract values with unknowns: an integer far beyond all kinds stands for 'unknown i, and c'; a float word for an unknown bool or an unknown cell. -/
namespace Go.Ns

/-- The unknown that an integer stands for, if it stands for one. -/
def symI (n : Int) : Option (Nat × Int) :=
  if n < 2 ^ 199 then none else some (((n + 2 ^ 199) / 2 ^ 200 - 1).toNat, n - (n + 2 ^ 199) / 2 ^ 200 * 2 ^ 200)

def encI (i : Nat) (c : Int) : Int := 2 ^ 200 * ((i : Int) + 1) + c

theorem symI_enc {i : Nat} {c : Int} (h1 : -(2 ^ 100) < c) (h2 : c < 2 ^ 100) : symI (encI i c) = some (i, c) := by
  have q : (encI i c + 2 ^ 199) / 2 ^ 200 = (i : Int) + 1 := by
    unfold encI
    omega
  unfold symI
  rw [if_neg (by unfold encI; omega), q]
  unfold encI
  congr 2
  · omega
  · omega

theorem symI_small {n : Int} (_ : -(2 ^ 100) < n) (h2 : n < 2 ^ 100) : symI n = none := by
  unfold symI; rw [if_pos (by omega)]

theorem symI_eq {n : Int} {i : Nat} {o : Int} (h : symI n = some (i, o)) : n = 2 ^ 200 * ((i : Int) + 1) + o := by
  unfold symI at h
  split at h
  · cases h
  · simp only [Option.some.injEq, Prod.mk.injEq] at h
    omega

theorem symI_inj {n m : Int} {i : Nat} {o : Int} (h1 : symI n = some (i, o)) (h2 : symI m = some (i, o)) : n = m := by rw [symI_eq h1, symI_eq h2]

mutual
/-- v' is what the abstract v stands for: θ: the unknowns; ι: what the abstract blocks' numbers are. -/
inductive Sb (θ : List V) (ι : List Nat) : V → V → Prop
  | undef (v : V) : Sb θ ι .undef v
  | bool (b : Bool) : Sb θ ι (.bool b) (.bool b)
  | int (k : IntKind) (n : Int) : symI n = none → Sb θ ι (.int k n) (.int k n)
  | sym (k : IntKind) (n : Int) (i : Nat) (c : Int) (k' : IntKind) (x : Int) : symI n = some (i, c) → θ[i]? = some (.int k' x) → Sb θ ι (.int k n) (.int k (x + c))
  | str (s : ByteArray) : Sb θ ι (.str s) (.str s)
  | bsym (i : Nat) (b : Bool) : θ[i]? = some (.bool b) → Sb θ ι (.flt .f32 i) (.bool b)
  | opq (i : Nat) (v : V) : θ[i]? = some v → v.cell = true → Sb θ ι (.flt .f64 i) v
  | nilp : Sb θ ι .nilp .nilp
  | ptr (i id g o : Nat) : ι[i]? = some id → Sb θ ι (.ptr i g o) (.ptr id g o)
  | fptr (cs cs' : List V) : SbL θ ι cs cs' → Sb θ ι (.fptr cs) (.fptr cs')
  | nils : Sb θ ι .nils .nils
  | fsl (ex : Bool) (n : Nat) (cs cs' : List V) : SbL θ ι cs cs' → Sb θ ι (.fsl ex n cs) (.fsl ex n cs')
  | hsl (i id g o n sz : Nat) (ex : Bool) (c : Nat) : ι[i]? = some id → Sb θ ι (.hsl i g o n sz ex c) (.hsl id g o n sz ex c)
  | nilm : Sb θ ι .nilm .nilm
  | map (i id : Nat) : ι[i]? = some id → Sb θ ι (.map i) (.map id)
  | nilf : Sb θ ι .nilf .nilf
  | fn (f : FuncId) (cs cs' : List V) : SbL θ ι cs cs' → Sb θ ι (.fn f cs) (.fn f cs')
  | nili : Sb θ ι .nili .nili
  | ifc (t : TypeId) (v v' : V) : Sb θ ι v v' → Sb θ ι (.ifc t v) (.ifc t v')
  | agg (cs cs' : List V) : SbL θ ι cs cs' → Sb θ ι (.agg cs) (.agg cs')
  | tup (cs cs' : List V) : SbL θ ι cs cs' → Sb θ ι (.tup cs) (.tup cs')
inductive SbL (θ : List V) (ι : List Nat) : List V → List V → Prop
  | nil : SbL θ ι [] []
  | cons (v v' : V) (vs vs' : List V) : Sb θ ι v v' → SbL θ ι vs vs' → SbL θ ι (v :: vs) (v' :: vs')
end

theorem pre_get {α : Type} {l l' : List α} (h : l <+: l') {i : Nat} {x : α} (hx : l[i]? = some x) : l'[i]? = some x := by
  obtain ⟨t, rfl⟩ := h
  rw [List.getElem?_append_left (List.getElem?_eq_some_iff.1 hx).1]
  exact hx

section
variable {θ θ' : List V} {ι ι' : List Nat}

mutual
theorem Sb.mono (h : θ <+: θ') (g : ι <+: ι') : ∀ {v v' : V}, Sb θ ι v v' → Sb θ' ι' v v'
  | _, _, .undef v => .undef v
  | _, _, .bool b => .bool b
  | _, _, .int k n q => .int k n q
  | _, _, .sym k n i c k' x q1 q2 => .sym k n i c k' x q1 (pre_get h q2)
  | _, _, .str s => .str s
  | _, _, .bsym i b q => .bsym i b (pre_get h q)
  | _, _, .opq i v q1 q2 => .opq i v (pre_get h q1) q2
  | _, _, .nilp => .nilp
  | _, _, .ptr i id a o q => .ptr i id a o (pre_get g q)
  | _, _, .fptr cs cs' q => .fptr cs cs' (SbL.mono h g q)
  | _, _, .nils => .nils
  | _, _, .fsl ex n cs cs' q => .fsl ex n cs cs' (SbL.mono h g q)
  | _, _, .hsl i id a o n sz ex c q => .hsl i id a o n sz ex c (pre_get g q)
  | _, _, .nilm => .nilm
  | _, _, .map i id q => .map i id (pre_get g q)
  | _, _, .nilf => .nilf
  | _, _, .fn f cs cs' q => .fn f cs cs' (SbL.mono h g q)
  | _, _, .nili => .nili
  | _, _, .ifc t v v' q => .ifc t v v' (Sb.mono h g q)
  | _, _, .agg cs cs' q => .agg cs cs' (SbL.mono h g q)
  | _, _, .tup cs cs' q => .tup cs cs' (SbL.mono h g q)
theorem SbL.mono (h : θ <+: θ') (g : ι <+: ι') : ∀ {vs vs' : List V}, SbL θ ι vs vs' → SbL θ' ι' vs vs'
  | _, _, .nil => .nil
  | _, _, .cons v v' vs vs' q1 q2 => .cons v v' vs vs' (Sb.mono h g q1) (SbL.mono h g q2)
end

theorem SbL.length : ∀ {vs vs' : List V}, SbL θ ι vs vs' → vs'.length = vs.length
  | _, _, .nil => rfl
  | _, _, .cons _ _ _ _ _ h => by simp [h.length]

theorem SbL.take : ∀ {vs vs' : List V} (_ : SbL θ ι vs vs') (n : Nat), SbL θ ι (vs.take n) (vs'.take n)
  | _, _, .nil, n => by simpa using SbL.nil
  | _, _, .cons _ _ _ _ h0 h1, 0 => by simpa using SbL.nil
  | _, _, .cons _ _ _ _ h0 h1, n + 1 => by simpa using SbL.cons _ _ _ _ h0 (h1.take n)

theorem SbL.drop : ∀ {vs vs' : List V} (_ : SbL θ ι vs vs') (n : Nat), SbL θ ι (vs.drop n) (vs'.drop n)
  | _, _, .nil, n => by simpa using SbL.nil
  | _, _, .cons _ _ _ _ h0 h1, 0 => .cons _ _ _ _ h0 h1
  | _, _, .cons _ _ _ _ h0 h1, n + 1 => by simpa using h1.drop n

theorem SbL.append : ∀ {a a' : List V} (_ : SbL θ ι a a') {b b' : List V} (_ : SbL θ ι b b'), SbL θ ι (a ++ b) (a' ++ b')
  | _, _, .nil, _, _, h => h
  | _, _, .cons _ _ _ _ h0 h1, _, _, h => .cons _ _ _ _ h0 (h1.append h)

theorem SbL.get : ∀ {vs vs' : List V} (_ : SbL θ ι vs vs') (j : Nat) {v : V}, vs[j]? = some v → ∃ v', vs'[j]? = some v' ∧ Sb θ ι v v'
  | _, _, .nil, j, v, h => by simp at h
  | _, _, .cons v0 v0' _ _ h0 h1, 0, v, h => by simp at h; subst h; exact ⟨v0', rfl, h0⟩
  | _, _, .cons v0 v0' _ _ h0 h1, j + 1, v, h => by simp at h; simpa using h1.get j h

theorem SbL.rd {vs vs' : List V} (h : SbL θ ι vs vs') (o n : Nat) : SbL θ ι (rd vs o n) (rd vs' o n) := (h.drop o).take n

theorem SbL.wr {cs cs' vs vs' : List V} (h : SbL θ ι cs cs') (hv : SbL θ ι vs vs') (o : Nat) : SbL θ ι (wr cs o vs) (wr cs' o vs') := by
  unfold Ns.wr
  rw [hv.length]
  exact ((h.take o).append hv).append (h.drop _)

theorem Sb.cell {v v' : V} (h : Sb θ ι v v') (hc : v.cell = true) : v'.cell = true := by
  cases h <;> first | rfl | assumption | (simp [V.cell] at hc; done)

theorem SbL.cell {vs vs' : List V} (h : SbL θ ι vs vs') (hc : vs.all V.cell = true) : vs'.all V.cell = true := by
  induction h using SbL.rec (motive_1 := fun _ _ _ => True) with
  | cons v v' vs vs' h0 h1 _ ih =>
    simp only [List.all_cons, Bool.and_eq_true] at hc ⊢
    exact ⟨h0.cell hc.1, ih hc.2⟩
  | _ => first | trivial | rfl

/-- Constants of the program stand for themselves. -/
def plainV : V → Bool
  | .bool _ | .str _ | .nilp | .nils | .nilm | .nilf | .nili => true
  | .int _ n => (symI n).isNone
  | _ => false

theorem Sb.plain {v : V} (h : plainV v = true) : Sb θ ι v v := by
  cases v <;> simp [plainV] at h <;> first | exact .bool _ | exact .str _ | exact .nilp | exact .nils | exact .nilm | exact .nilf | exact .nili | exact .int _ _ h

theorem SbL.plain : ∀ {vs : List V}, vs.all plainV = true → SbL θ ι vs vs
  | [], _ => .nil
  | v :: vs, h => by
    simp only [List.all_cons, Bool.and_eq_true] at h
    exact .cons _ _ _ _ (Sb.plain h.1) (SbL.plain h.2)

theorem SbL.rep {vs vs' : List V} (h : SbL θ ι vs vs') : ∀ n, SbL θ ι (List.replicate n vs).flatten (List.replicate n vs').flatten
  | 0 => by simpa using SbL.nil
  | n + 1 => by simpa [List.replicate_succ] using h.append (h.rep n)

theorem mkT_sb {g : Bool} {cs cs' : List V} (h : SbL θ ι cs cs') {u : V} (hu : mkT g cs = some u) : ∃ u', mkT g cs' = some u' ∧ Sb θ ι u u' := by
  cases g with
  | true => simp only [mkT, if_true, Option.some.injEq] at hu ⊢; subst hu; exact ⟨_, rfl, .agg _ _ h⟩
  | false =>
    cases h with
    | nil => simp [mkT] at hu
    | cons v v' vs vs' h0 h1 => simp [mkT] at hu ⊢; subst hu; exact h0

theorem part_sb {s : Nat} {g : Bool} {cs cs' : List V} (h : SbL θ ι cs cs') {o : Nat} {u : V} (hu : partV s g cs o = some u) : ∃ u', partV s g cs' o = some u' ∧ Sb θ ι u u' := by
  unfold partV at hu ⊢
  split at hu
  · rename_i hq
    rw [if_pos (by rw [h.length]; exact hq)]
    exact mkT_sb (h.rd _ _) hu
  · cases hu

/-! ### Objects, heaps -/
inductive EsR (θ : List V) (ι : List Nat) : List (V × V × Nat) → List (V × V × Nat) → Prop
  | nil : EsR θ ι [] []
  | cons (k k' v v' : V) (n : Nat) (es es' : List (V × V × Nat)) : Sb θ ι k k' → Sb θ ι v v' → EsR θ ι es es' → EsR θ ι ((k, v, n) :: es) ((k', v', n) :: es')

theorem EsR.length {es es' : List (V × V × Nat)} (h : EsR θ ι es es') : es'.length = es.length := by
  induction h with
  | nil => rfl
  | cons _ _ _ _ _ _ _ _ _ _ ih => simp [ih]

theorem EsR.mono (h : θ <+: θ') (g : ι <+: ι') {es es' : List (V × V × Nat)} (q : EsR θ ι es es') : EsR θ' ι' es es' := by
  induction q with
  | nil => exact .nil
  | cons k k' v v' n es es' h1 h2 _ ih => exact .cons _ _ _ _ _ _ _ (h1.mono h g) (h2.mono h g) ih

def SbO (θ : List V) (ι : List Nat) : HObj → HObj → Prop
  | .cells g cs, .cells g' cs' => g' = g ∧ SbL θ ι cs cs'
  | .map es c, .map es' c' => c' = c ∧ EsR θ ι es es'
  | .iter m a b c, .iter m' a' b' c' => a' = a ∧ b' = b ∧ c' = c ∧ (match m, m' with | none, none => True | some i, some id => ι[i]? = some id | _, _ => False)
  | _, _ => False

theorem SbO.mono (h : θ <+: θ') (g : ι <+: ι') {o o' : HObj} (q : SbO θ ι o o') : SbO θ' ι' o o' := by
  cases o <;> cases o' <;> simp only [SbO] at q ⊢
  · exact ⟨q.1, q.2.mono h g⟩
  · exact ⟨q.1, q.2.mono h g⟩
  · rename_i m _ _ _ m' _ _ _
    refine ⟨q.1, q.2.1, q.2.2.1, ?_⟩
    have := q.2.2.2
    cases m <;> cases m' <;> simp only at this ⊢
    exact pre_get g this

/-- The abstract heap stands for a part of H': other blocks may be there. -/
structure SbH (θ : List V) (ι : List Nat) (b b' : Nat) (H H' : Heap) : Prop where
  n : H.n = ι.length
  inj : ∀ (i j id : Nat), ι[i]? = some id → ι[j]? = some id → i = j
  lt : ∀ (i id : Nat), ι[i]? = some id → id < H'.n
  get : ∀ (i id : Nat) (o : HObj), ι[i]? = some id → H.get i = some o → ∃ o', H'.get id = some o' ∧ SbO θ ι o o'
  base : ∀ (i id : Nat), ι[i]? = some id → b ≤ i → b' ≤ id
  low : b' ≤ H'.n
  opq : ∀ (i : Nat) (v : V), θ[i]? = some v → belowV H'.n v = true

variable {b b' : Nat} {H H' : Heap}

theorem SbH.cells (h : SbH θ ι b b' H H') {i id g : Nat} {cs : List V} (hi : ι[i]? = some id) (hg : H.get i = some (.cells g cs)) : ∃ cs', H'.get id = some (.cells g cs') ∧ SbL θ ι cs cs' := by
  obtain ⟨o', h1, h2⟩ := h.get i id _ hi hg
  cases o' <;> simp only [SbO] at h2
  obtain ⟨rfl, h2⟩ := h2
  exact ⟨_, h1, h2⟩

theorem SbH.mapAt (h : SbH θ ι b b' H H') {i id c : Nat} {es : List (V × V × Nat)} (hi : ι[i]? = some id) (hg : H.get i = some (.map es c)) : ∃ es', H'.get id = some (.map es' c) ∧ EsR θ ι es es' := by
  obtain ⟨o', h1, h2⟩ := h.get i id _ hi hg
  cases o' <;> simp only [SbO] at h2
  obtain ⟨rfl, h2⟩ := h2
  exact ⟨_, h1, h2⟩

theorem SbH.set (h : SbH θ ι b b' H H') {i id : Nat} {o o' : HObj} (hi : ι[i]? = some id) (ho : SbO θ ι o o') : SbH θ ι b b' (H.set i o) (H'.set id o') := by
  refine ⟨h.n, h.inj, h.lt, fun j jd oj hj hg => ?_, h.base, h.low, h.opq⟩
  simp only [Heap.set] at hg ⊢
  by_cases hq : j = i
  · subst hq
    rw [hi] at hj
    cases hj
    rw [if_pos rfl] at hg
    cases hg
    exact ⟨o', by rw [if_pos rfl], ho⟩
  · rw [if_neg hq] at hg
    rw [if_neg (fun e => hq (h.inj j i id (by rw [hj, e]) hi))]
    exact h.get j jd oj hj hg

theorem SbH.new (h : SbH θ ι b b' H H') {o o' : HObj} (ho : SbO θ ι o o') (hm : ∀ (i : Nat) (v : V), θ[i]? = some v → belowV (H'.n + 1) v = true) : SbH θ (ι ++ [H'.n]) b b' (H.new o) (H'.new o') := by
  have pre : ι <+: ι ++ [H'.n] := List.prefix_append _ _
  have key : ∀ (i id : Nat), (ι ++ [H'.n])[i]? = some id → ι[i]? = some id ∨ (i = ι.length ∧ id = H'.n) := by
    intro i id hi
    by_cases hq : i < ι.length
    · rw [List.getElem?_append_left hq] at hi; exact .inl hi
    · rw [List.getElem?_append_right (by omega)] at hi
      have : i - ι.length = 0 := by
        by_cases h0 : i - ι.length = 0
        · exact h0
        · rw [List.getElem?_eq_none (by simp; omega)] at hi; cases hi
      rw [this] at hi
      simp at hi
      exact .inr ⟨by omega, hi.symm⟩
  refine ⟨by simp [Heap.new, h.n], ?_, ?_, ?_, ?_, by simp [Heap.new]; have := h.low; omega, by simpa [Heap.new] using hm⟩
  · intro i j id hi hj
    rcases key i id hi with q | ⟨q1, q2⟩ <;> rcases key j id hj with p | ⟨p1, p2⟩
    · exact h.inj i j id q p
    · have := h.lt i id q; omega
    · have := h.lt j id p; omega
    · omega
  · intro i id hi
    simp only [Heap.new]
    rcases key i id hi with q | ⟨q1, q2⟩
    · have := h.lt i id q; omega
    · omega
  · intro i id o2 hi hg
    simp only [Heap.new] at hg ⊢
    rcases key i id hi with q | ⟨q1, q2⟩
    · have hlt := (List.getElem?_eq_some_iff.1 q).1
      rw [if_neg (by rw [h.n]; omega)] at hg
      obtain ⟨o3, h1, h2⟩ := h.get i id o2 q hg
      have := h.lt i id q
      exact ⟨o3, by rw [if_neg (by omega)]; exact h1, h2.mono (List.prefix_refl _) pre⟩
    · rw [if_pos (by rw [h.n]; exact q1)] at hg
      cases hg
      exact ⟨o', by rw [if_pos q2], ho.mono (List.prefix_refl _) pre⟩
  · intro i id hi hb
    rcases key i id hi with q | ⟨q1, q2⟩
    · exact h.base i id q hb
    · have := h.low; omega

mutual
theorem belowV_le {n m : Nat} (h : n ≤ m) : ∀ (v : V), belowV n v = true → belowV m v = true
  | .undef, _ => rfl
  | .bool _, _ => rfl
  | .int _ _, _ => rfl
  | .flt _ _, _ => rfl
  | .str _, _ => rfl
  | .nilp, _ => rfl
  | .ptr .., q => by simp [belowV] at q ⊢; omega
  | .fptr cs, q => by simp only [belowV] at q ⊢; exact belowVs_le h cs q
  | .nils, _ => rfl
  | .fsl _ _ cs, q => by simp only [belowV] at q ⊢; exact belowVs_le h cs q
  | .hsl .., q => by simp [belowV] at q ⊢; omega
  | .nilm, _ => rfl
  | .map .., q => by simp [belowV] at q ⊢; omega
  | .nilf, _ => rfl
  | .fn _ cs, q => by simp only [belowV] at q ⊢; exact belowVs_le h cs q
  | .nili, _ => rfl
  | .ifc _ v, q => by simp only [belowV] at q ⊢; exact belowV_le h v q
  | .agg cs, q => by simp only [belowV] at q ⊢; exact belowVs_le h cs q
  | .tup cs, q => by simp only [belowV] at q ⊢; exact belowVs_le h cs q
theorem belowVs_le {n m : Nat} (h : n ≤ m) : ∀ (l : List V), belowVs n l = true → belowVs m l = true
  | [], _ => rfl
  | v :: l, q => by
    simp only [belowVs, Bool.and_eq_true] at q ⊢
    exact ⟨belowV_le h v q.1, belowVs_le h l q.2⟩
end

theorem SbH.new' (h : SbH θ ι b b' H H') {o o' : HObj} (ho : SbO θ ι o o') : SbH θ (ι ++ [H'.n]) b b' (H.new o) (H'.new o') :=
  h.new ho fun i v hv => belowV_le (Nat.le_succ _) v (h.opq i v hv)

/-! ### Operations that only look -/
variable {P : Program}

theorem ld_sb (h : SbH θ ι b b' H H') {t : TypeId} {a a' u : V} (ha : Sb θ ι a a') (hu : ldV P H t a = some u) : ∃ u', ldV P H' t a' = some u' ∧ Sb θ ι u u' := by
  unfold ldV at hu ⊢
  split at hu
  · rename_i s g hs hg
    try simp only [hs, hg]
    split at hu
    · rename_i i gen off
      cases ha with
      | ptr _ id _ _ hi =>
      split at hu
      · rename_i g' cs hget
        obtain ⟨cs', h1, h2⟩ := h.cells hi hget
        simp only [h1]
        split at hu
        · rename_i hq
          rw [if_pos ⟨hq.1, by rw [h2.length]; exact hq.2⟩]
          exact mkT_sb (h2.rd _ _) hu
        · cases hu
      · cases hu
    · rename_i cs
      cases ha with
      | fptr _ cs' h2 =>
      simp only
      split at hu
      · rename_i hq
        rw [if_pos (by rw [h2.length]; exact hq)]
        exact mkT_sb (h2.take _) hu
      · cases hu
    · cases hu
  · cases hu

theorem fa_sb {t : TypeId} {a a' u : V} {i : Nat} (ha : Sb θ ι a a') (hu : faV P t a i = some u) : ∃ u', faV P t a' i = some u' ∧ Sb θ ι u u' := by
  unfold faV at hu ⊢
  split at hu
  · rename_i off s g hf
    try simp only [hf]
    split at hu
    · cases hu
    · rename_i hs
      rw [if_neg hs]
      split at hu
      · cases ha with
        | ptr _ id _ _ hi => cases hu; exact ⟨_, rfl, .ptr _ _ _ _ hi⟩
      · cases ha with
        | fptr _ cs' h2 => cases hu; exact ⟨_, rfl, .fptr _ _ (h2.drop _)⟩
      · cases hu
  · cases hu

theorem fd_sb {t : TypeId} {x x' u : V} {i : Nat} (hx : Sb θ ι x x') (hu : fdV P t x i = some u) : ∃ u', fdV P t x' i = some u' ∧ Sb θ ι u u' := by
  unfold fdV at hu ⊢
  split at hu
  · rename_i off s g cs hf
    cases hx with
    | agg _ cs' h2 =>
    try simp only [hf]
    exact part_sb h2 hu
  · cases hu

/-- An integer that is known. -/
def known : V → Bool | .int _ n => (symI n).isNone | _ => false

theorem known_sb {v v' : V} (h : Sb θ ι v v') (hk : known v = true) : v' = v := by
  cases v <;> simp [known] at hk
  cases h with
  | int => rfl
  | sym _ _ _ _ _ _ q => rw [hk] at q; cases q

theorem ix_sb {t : TypeId} {x x' i u : V} (hx : Sb θ ι x x') (hu : ixV P t x i = some u) : ∃ u', ixV P t x' i = some u' ∧ Sb θ ι u u' := by
  unfold ixV at hu ⊢
  split at hu
  · rename_i k i
    split at hu
    · rename_i cs
      cases hx with
      | agg _ cs' h2 =>
      simp only
      split at hu
      · rename_i n s g ha
        try simp only [ha]
        split at hu
        · rename_i hq; rw [if_pos hq]; exact part_sb h2 hu
        · cases hu
      · cases hu
    · rename_i s
      cases hx with
      | str =>
      simp only
      split at hu
      · rename_i hs
        rw [if_pos hs]
        split at hu
        · rename_i hq
          rw [if_pos hq]
          simp only [Option.map_eq_some_iff] at hu ⊢
          obtain ⟨c, hc, rfl⟩ := hu
          have := c.toNat_lt
          exact ⟨_, ⟨c, hc, rfl⟩, .int _ _ (symI_small (by omega) (by omega))⟩
        · cases hu
      · cases hu
    · cases hu
  · cases hu

theorem ia_sb {t : TypeId} {x x' i u : V} (hx : Sb θ ι x x') (hu : iaV P t x i = some u) : ∃ u', iaV P t x' i = some u' ∧ Sb θ ι u u' := by
  unfold iaV at hu ⊢
  split at hu
  · rename_i k i
    split at hu
    · cases hx with
      | ptr _ id _ _ hi =>
      simp only
      split at hu
      · rename_i n s g ha
        try simp only [ha]
        split at hu
        · rename_i hq; rw [if_pos hq]; cases hu; exact ⟨_, rfl, .ptr _ _ _ _ hi⟩
        · cases hu
      · cases hu
    · cases hx with
      | fptr _ cs' h2 =>
      simp only
      split at hu
      · rename_i n s g ha
        try simp only [ha]
        split at hu
        · rename_i hq; rw [if_pos hq]; cases hu; exact ⟨_, rfl, .fptr _ _ (h2.drop _)⟩
        · cases hu
      · cases hu
    · cases hx with
      | hsl _ id _ _ _ _ _ _ hi =>
      simp only
      split at hu
      · rename_i e s by_ ha
        try simp only [ha]
        split at hu
        · rename_i hq; rw [if_pos hq]; cases hu; exact ⟨_, rfl, .ptr _ _ _ _ hi⟩
        · cases hu
      · cases hu
    · cases hx with
      | fsl _ _ _ cs' h2 =>
      simp only
      split at hu
      · rename_i e s by_ ha
        try simp only [ha]
        split at hu
        · rename_i hq; rw [if_pos hq]; cases hu; exact ⟨_, rfl, .fptr _ _ (h2.drop _)⟩
        · cases hu
      · cases hu
    · cases hu
  · cases hu

theorem ex_sb {x x' u : V} {i : Nat} (hx : Sb θ ι x x') (hu : exV x i = some u) : ∃ u', exV x' i = some u' ∧ Sb θ ι u u' := by
  unfold exV at hu ⊢
  split at hu
  · cases hx with
    | tup _ cs' h2 => exact h2.get i hu
  · cases hu

theorem vcells_sb {x x' : V} {cs : List V} (hx : Sb θ ι x x') (hu : vcells x = some cs) : ∃ cs', vcells x' = some cs' ∧ SbL θ ι cs cs' := by
  cases x <;> simp only [vcells, Option.some.injEq, reduceCtorEq] at hu
  case agg l =>
    subst hu
    cases hx with
    | agg _ cs' h2 => exact ⟨cs', rfl, h2⟩
  all_goals
    subst hu
    have hc : x'.cell = true := hx.cell rfl
    refine ⟨[x'], ?_, .cons _ _ _ _ hx .nil⟩
    cases x' <;> first | rfl | (simp [V.cell] at hc; done)

end
end Go.Ns

/- Ns, part Sb: operations on abstract values with unknowns: building, allocation, stores. -/
namespace Go.Ns
section
variable {θ : List V} {ι : List Nat} {P : Program} {b b' : Nat} {H H' : Heap}

def zOk (P : Program) (t : TypeId) : Bool :=
  match zvT P t with
  | some (.agg cs) => cs.all plainV
  | some v => plainV v
  | none => true

theorem z_sb {t : TypeId} {z : V} (hz : zOk P t = true) (h : zvT P t = some z) : Sb θ ι z z := by
  unfold zOk at hz
  rw [h] at hz
  split at hz
  · rename_i cs q; cases q; exact .agg _ _ (SbL.plain hz)
  · rename_i v _ q; cases q; exact Sb.plain hz
  · rename_i q; cases q

theorem zs_sb {t : TypeId} {zs : List V} (hz : zOk P t = true) (h : (zvT P t).bind vcells = some zs) : SbL θ ι zs zs := by
  simp only [Option.bind_eq_some_iff] at h
  obtain ⟨z, h1, h2⟩ := h
  obtain ⟨cs', h3, h4⟩ := vcells_sb (z_sb (θ := θ) (ι := ι) hz h1) h2
  rw [h2] at h3; cases h3; exact h4

inductive PSb (θ : List V) (ι : List Nat) : List (Nat × V) → List (Nat × V) → Prop
  | nil : PSb θ ι [] []
  | cons (i : Nat) (v v' : V) (vs vs' : List (Nat × V)) : Sb θ ι v v' → PSb θ ι vs vs' → PSb θ ι ((i, v) :: vs) ((i, v') :: vs')

theorem fill_sb {ps : List (Nat × Nat)} : ∀ {parts parts' : List (Nat × V)}, PSb θ ι parts parts' → ∀ {cs cs' us : List V}, SbL θ ι cs cs' → fillV ps cs parts = some us → ∃ us', fillV ps cs' parts' = some us' ∧ SbL θ ι us us'
  | _, _, .nil, cs, cs', us, h, hu => by simp [fillV] at hu; subst hu; exact ⟨cs', rfl, h⟩
  | _, _, .cons i v v' vs vs' hv hvs, cs, cs', us, h, hu => by
    simp only [fillV] at hu ⊢
    split at hu
    · rename_i off size ws q1 q2
      obtain ⟨ws', w1, w2⟩ := vcells_sb hv q2
      simp only [q1, w1]
      split at hu
      · rename_i hq
        rw [if_pos (by rw [w2.length, h.length]; exact hq)]
        exact fill_sb hvs (h.wr w2 _) hu
      · cases hu
    · cases hu

theorem bd_sb {t : TypeId} (hz : zOk P t = true) {parts parts' : List (Nat × V)} (hp : PSb θ ι parts parts') {u : V} (hu : bdV P t parts = some u) : ∃ u', bdV P t parts' = some u' ∧ Sb θ ι u u' := by
  unfold bdV at hu ⊢
  split at hu
  · rename_i zs ps q1 q2
    have hzs : SbL θ ι zs zs := by
      have := z_sb (θ := θ) (ι := ι) hz q1
      cases this with
      | agg _ _ h => exact h
    simp only [Option.map_eq_some_iff] at hu ⊢
    obtain ⟨us, h1, rfl⟩ := hu
    obtain ⟨us', h2, h3⟩ := fill_sb hp hzs h1
    exact ⟨_, ⟨us', h2, rfl⟩, .agg _ _ h3⟩
  · cases hu

def elT (P : Program) (t : TypeId) : TypeId := match slcT P t with | some (e, _, _) => e | none => 0

theorem bs_sb {t : TypeId} (hz : zOk P (elT P t) = true) {n : Nat} {parts parts' : List (Nat × V)} (hp : PSb θ ι parts parts') {u : V} (hu : bsV P t n parts = some u) : ∃ u', bsV P t n parts' = some u' ∧ Sb θ ι u u' := by
  unfold bsV at hu ⊢
  unfold elT at hz
  split at hu
  · rename_i e sz by_ q1
    rw [q1] at hz
    simp only at hz
    split at hu
    · rename_i zs q2
      have hzs := zs_sb (θ := θ) (ι := ι) hz q2
      split at hu
      · rename_i hq
        try rw [if_pos hq]
        simp only [Option.map_eq_some_iff] at hu ⊢
        obtain ⟨us, h1, rfl⟩ := hu
        obtain ⟨us', h2, h3⟩ := fill_sb hp (hzs.rep n) h1
        exact ⟨_, ⟨us', h2, rfl⟩, .fsl _ _ _ _ h3⟩
      · cases hu
    · cases hu
  · cases hu

theorem mi_sb {t : TypeId} {x x' u : V} (hx : Sb θ ι x x') (hu : miV P t x = some u) : ∃ u', miV P t x' = some u' ∧ Sb θ ι u u' := by
  unfold miV at hu ⊢
  split at hu
  · rename_i q; cases hu; exact ⟨_, by rw [if_pos q], .ifc _ _ _ hx⟩
  · cases hu

theorem ta_sb {t : TypeId} (hz : zOk P t = true) {x x' u : V} (hx : Sb θ ι x x') (hu : taV P x t = some u) : ∃ u', taV P x' t = some u' ∧ Sb θ ι u u' := by
  have fin : ∀ z, zvT P t = some z → Sb θ ι (.tup [z, .bool false]) (.tup [z, .bool false]) := fun z q => .tup _ _ (.cons _ _ _ _ (z_sb hz q) (.cons _ _ _ _ (.bool _) .nil))
  unfold taV at hu ⊢
  split at hu
  · rename_i q
    try rw [if_pos q]
    split at hu
    · rename_i t' v
      cases hx with
      | ifc _ _ v' hv =>
      simp only
      split at hu
      · rename_i q2
        rw [if_pos q2]
        cases hu
        exact ⟨_, rfl, .tup _ _ (.cons _ _ _ _ hv (.cons _ _ _ _ (.bool _) .nil))⟩
      · rename_i q2
        rw [if_neg q2]
        simp only [Option.map_eq_some_iff] at hu ⊢
        obtain ⟨z, h1, rfl⟩ := hu
        exact ⟨_, ⟨z, h1, rfl⟩, fin z h1⟩
    · cases hx
      simp only [Option.map_eq_some_iff] at hu ⊢
      obtain ⟨z, h1, rfl⟩ := hu
      exact ⟨_, ⟨z, h1, rfl⟩, fin z h1⟩
    · cases hu
  · cases hu

theorem SbO.cells {g : Nat} {cs cs' : List V} (h : SbL θ ι cs cs') : SbO θ ι (.cells g cs) (.cells g cs') := ⟨rfl, h⟩

/-! ### What changes the heap -/
def EffS (θ : List V) (ι : List Nat) (b b' : Nat) (H2 H2' : Heap) (u u' : V) : Prop :=
  ∃ ι2, ι <+: ι2 ∧ SbH θ ι2 b b' H2 H2' ∧ Sb θ ι2 u u'

theorem new_sb (h : SbH θ ι b b' H H') {cs cs' : List V} (hc : SbL θ ι cs cs') : EffS θ ι b b' (newV H cs).2 (newV H' cs').2 (newV H cs).1 (newV H' cs').1 :=
  ⟨ι ++ [H'.n], List.prefix_append _ _, h.new' ⟨rfl, hc⟩, .ptr _ _ _ _ (by rw [h.n]; simp)⟩

theorem al_sb (h : SbH θ ι b b' H H') {t : TypeId} (hz : zOk P t = true) {u : V} {H2 : Heap} (hu : alV P H t = some (u, H2)) : ∃ u' H2', alV P H' t = some (u', H2') ∧ EffS θ ι b b' H2 H2' u u' := by
  unfold alV at hu ⊢
  simp only [Option.bind_eq_some_iff, Option.map_eq_some_iff] at hu ⊢
  obtain ⟨z, h1, cs, h2, h3⟩ := hu
  have hcs := zs_sb (θ := θ) (ι := ι) hz (by rw [h1]; exact h2)
  have := new_sb h hcs
  rw [h3] at this
  exact ⟨_, _, ⟨z, h1, cs, h2, rfl⟩, this⟩

theorem bx_sb (h : SbH θ ι b b' H H') {x x' u : V} (hx : Sb θ ι x x') {H2 : Heap} (hu : bxV H x = some (u, H2)) : ∃ u' H2', bxV H' x' = some (u', H2') ∧ EffS θ ι b b' H2 H2' u u' := by
  unfold bxV at hu ⊢
  simp only [Option.map_eq_some_iff] at hu ⊢
  obtain ⟨cs, h2, h3⟩ := hu
  obtain ⟨cs', w1, w2⟩ := vcells_sb hx h2
  have := new_sb h w2
  rw [h3] at this
  exact ⟨_, _, ⟨cs', w1, rfl⟩, this⟩

theorem sto_sb (h : SbH θ ι b b' H H') {t : TypeId} {a a' x x' : V} (ha : Sb θ ι a a') (hx : Sb θ ι x x') {H2 : Heap} (hu : stoV P b H t a x = some H2) : ∃ H2', stoV P b' H' t a' x' = some H2' ∧ SbH θ ι b b' H2 H2' := by
  unfold stoV at hu
  split at hu
  · rename_i i g o s vs hs hv
    cases ha with
    | ptr _ id _ _ hi =>
    obtain ⟨vs', w1, w2⟩ := vcells_sb hx hv
    split at hu
    · rename_i g' cs hget
      obtain ⟨cs', h1, h2⟩ := h.cells hi hget
      split at hu
      · rename_i hq
        cases hu
        refine ⟨H'.set id (.cells g (wr cs' o vs')), ?_, h.set hi (SbO.cells (h2.wr w2 _))⟩
        unfold stoV
        simp only [hs, w1, h1]
        rw [if_pos ⟨hq.1, by rw [w2.length]; exact hq.2.1, by rw [h2.length]; exact hq.2.2.1, h.base i id hi hq.2.2.2⟩]
      · cases hu
    · cases hu
  · cases hu

theorem xcells_sb (h : SbH θ ι b b' H H') {sz n : Nat} {x x' : V} {cs : List V} (hx : Sb θ ι x x') (hu : xcells H sz x = some (n, cs)) : ∃ cs', xcells H' sz x' = some (n, cs') ∧ SbL θ ι cs cs' := by
  unfold xcells at hu
  split at hu
  · cases hx; cases hu; exact ⟨[], rfl, .nil⟩
  · cases hx with
    | fsl _ _ _ cs' h2 =>
    split at hu
    · rename_i hq
      cases hu
      exact ⟨cs'.take _, by simp only [xcells]; rw [if_pos (by rw [h2.length]; exact hq)], h2.take _⟩
    · cases hu
  · cases hx with
    | hsl _ id _ _ _ _ _ _ hi =>
    split at hu
    · rename_i g' l hget
      obtain ⟨cs', h1, h2⟩ := h.cells hi hget
      split at hu
      · rename_i hq
        cases hu
        exact ⟨_, by simp only [xcells, h1]; rw [if_pos ⟨hq.1, by rw [h2.length]; exact hq.2⟩], h2.rd _ _⟩
      · cases hu
    · cases hu
  · cases hu

theorem small_nat {n : Nat} (h : n < 2 ^ 100) : symI (n : Int) = none := symI_small (by omega) (by omega)

/-- A length that is told is small. -/
def smallN (n : Nat) : Bool := decide (n < 2 ^ 100)
def smallV : Option V → Bool | some v => known v | none => true

theorem ln_sb (h : SbH θ ι b b' H H') {t : TypeId} {x x' u : V} (hx : Sb θ ι x x') (hu : lnV P H t x = some u) (hk : known u = true) : ∃ u', lnV P H' t x' = some u' ∧ Sb θ ι u u' := by
  have kn : ∀ {k : IntKind} {n : Int}, known (.int k n) = true → Sb θ ι (.int k n) (.int k n) := fun q => .int _ _ (by simpa [known] using q)
  unfold lnV at hu
  split at hu
  · cases hx
    split at hu
    · rename_i q; cases hu; exact ⟨_, by simp [lnV, q], kn hk⟩
    · cases hu
  · cases hx
    simp only [Option.map_eq_some_iff] at hu
    obtain ⟨q, h1, rfl⟩ := hu
    exact ⟨_, by simp [lnV, h1], kn hk⟩
  · cases hx
    simp only [Option.map_eq_some_iff] at hu
    obtain ⟨q, h1, rfl⟩ := hu
    exact ⟨_, by simp [lnV, h1], kn hk⟩
  · cases hx
    simp only [Option.map_eq_some_iff] at hu
    obtain ⟨q, h1, rfl⟩ := hu
    exact ⟨_, by simp [lnV, h1], kn hk⟩
  · cases hx
    simp only [Option.map_eq_some_iff] at hu
    obtain ⟨q, h1, rfl⟩ := hu
    exact ⟨_, by simp [lnV, h1], kn hk⟩
  · cases hx with
    | map _ id hi =>
    split at hu
    · rename_i es c hget
      obtain ⟨es', h1, h2⟩ := h.mapAt hi hget
      simp only [Option.map_eq_some_iff] at hu
      obtain ⟨q, h3, rfl⟩ := hu
      refine ⟨.int .i64 es'.length, by simp [lnV, h1, h3], ?_⟩
      rw [h2.length]
      exact kn hk
    · cases hu
  · cases hu

theorem cp_sb {t : TypeId} {x x' u : V} (hx : Sb θ ι x x') (hu : cpV P t x = some u) (hk : known u = true) : ∃ u', cpV P t x' = some u' ∧ Sb θ ι u u' := by
  have kn : ∀ {k : IntKind} {n : Int}, known (.int k n) = true → Sb θ ι (.int k n) (.int k n) := fun q => .int _ _ (by simpa [known] using q)
  unfold cpV at hu
  split at hu
  · cases hx
    simp only [Option.map_eq_some_iff] at hu
    obtain ⟨q, h1, rfl⟩ := hu
    exact ⟨_, by simp [cpV, h1], kn hk⟩
  · cases hx
    simp only [Option.map_eq_some_iff] at hu
    obtain ⟨q, h1, rfl⟩ := hu
    exact ⟨_, by simp [cpV, h1], kn hk⟩
  · cases hx
    simp only [Option.map_eq_some_iff] at hu
    obtain ⟨q, h1, rfl⟩ := hu
    exact ⟨_, by simp [cpV, h1], kn hk⟩
  · cases hu

theorem mk_sb (h : SbH θ ι b b' H H') {t : TypeId} (hz : zOk P (elT P t) = true) {l c u : V} {H2 : Heap} (hu : mkV P b H t l c = some (u, H2)) : ∃ u' H2', mkV P b' H' t l c = some (u', H2') ∧ EffS θ ι b b' H2 H2' u u' := by
  unfold mkV at hu
  unfold elT at hz
  split at hu
  · rename_i e sz by_ k1 l k2 c q1
    rw [q1] at hz
    simp only at hz
    split at hu
    · rename_i zs q2
      have hzs := zs_sb (θ := θ) (ι := ι) hz q2
      split at hu
      · rename_i hq
        cases hu
        refine ⟨_, _, by unfold mkV; simp only [q1, q2]; rw [if_pos ⟨hq.1, hq.2.1, hq.2.2.1, hq.2.2.2.1, hq.2.2.2.2.1, hq.2.2.2.2.2.1, h.low⟩], ι ++ [H'.n], List.prefix_append _ _, h.new' (SbO.cells (hzs.rep _)), .hsl _ _ _ _ _ _ _ _ (by rw [h.n]; simp)⟩
      · cases hu
    · cases hu
  · cases hu

theorem ap_sb (h : SbH θ ι b b' H H') {t t1 : TypeId} (_ : zOk P (elT P t) = true) {s s' x x' u : V} (hs : Sb θ ι s s') (hx : Sb θ ι x x') {H2 : Heap} (hu : apV P b H t t1 s x = some (u, H2)) :
    ∃ u' H2', apV P b' H' t t1 s' x' = some (u', H2') ∧ EffS θ ι b b' H2 H2' u u' := by
  unfold apV at hu
  split at hu
  · rename_i e sz by_ r1 q1 q1'
    split at hu
    · rename_i k xs zs q2 q3
      obtain ⟨xs', w1, w2⟩ := xcells_sb h hx q2
      split at hu
      · rename_i hzl
        split at hu
        · rename_i hk
          split at hu
          · rename_i r q4
            obtain ⟨n, cs⟩ := r
            obtain ⟨cs', v1, v2⟩ := xcells_sb h hs q4
            cases hu
            exact ⟨s', H', by unfold apV; simp only [q1, q1', w1, q3, hzl, hk, v1, if_true], ι, List.prefix_refl _, h, hs⟩
          · cases hu
        · rename_i hk
          split at hu
          · cases hs
            split at hu
            · rename_i hq
              cases hu
              refine ⟨_, _, by unfold apV; simp only [q1, q1', w1, q3, hzl, hk, if_true, if_false]; rw [if_pos ⟨hq.1, hq.2.1, h.low⟩], ι ++ [H'.n], List.prefix_append _ _, h.new' (SbO.cells (w2)), .hsl _ _ _ _ _ _ _ _ (by rw [h.n]; simp)⟩
            · cases hu
          · rename_i n cs
            cases hs with
            | fsl _ _ _ cs' h2 =>
            split at hu
            · rename_i hq
              cases hu
              refine ⟨_, _, by unfold apV; simp only [q1, q1', w1, q3, hzl, hk, if_true, if_false]; rw [if_pos ⟨hq.1, hq.2.1, by rw [h2.length]; exact hq.2.2.1, h.low⟩], ι ++ [H'.n], List.prefix_append _ _, h.new' (SbO.cells ((h2.take _).append w2)), .hsl _ _ _ _ _ _ _ _ (by rw [h.n]; simp)⟩
            · cases hu
          · rename_i i g o n sz' ex c
            cases hs with
            | hsl _ id _ _ _ _ _ _ hi =>
            split at hu
            · rename_i g' cs hget
              obtain ⟨cs', h1, h2⟩ := h.cells hi hget
              split at hu
              · rename_i hq
                have hq' : g' = g ∧ sz' = sz ∧ o + n * sz ≤ cs'.length ∧ b' ≤ id ∧ b' ≤ H'.n ∧ (3 * (n + k) + 4000) * by_ ≤ 2 ^ 48 ∧ n + k ≤ 2 ^ 40 :=
                  ⟨hq.1, hq.2.1, by rw [h2.length]; exact hq.2.2.1, h.base i id hi hq.2.2.2.1, h.low, hq.2.2.2.2.2⟩
                split at hu
                · rename_i hc
                  cases hu
                  exact ⟨_, _, by unfold apV; simp only [q1, q1', w1, q3, hzl, hk, h1, if_true, if_false]; rw [if_pos hq', if_pos hc], ι, List.prefix_refl _, h.set hi (SbO.cells (h2.wr w2 _)), .hsl _ _ _ _ _ _ _ _ hi⟩
                · rename_i hc
                  split at hu
                  · rename_i hex
                    cases hu
                    exact ⟨_, _, by unfold apV; simp only [q1, q1', w1, q3, hzl, hk, h1, if_true, if_false]; rw [if_pos hq', if_neg hc, if_pos hex], ι ++ [H'.n], List.prefix_append _ _, h.new' (SbO.cells ((h2.rd _ _).append w2)), .hsl _ _ _ _ _ _ _ _ (by rw [h.n]; simp)⟩
                  · rename_i hex
                    split at hu
                    · rename_i ho
                      cases hu
                      exact ⟨_, _, by unfold apV; simp only [q1, q1', w1, q3, hzl, hk, h1, if_true, if_false]; rw [if_pos hq', if_neg hc, if_neg hex, if_pos ⟨ho.1, by rw [h2.length]; exact ho.2⟩], ι, List.prefix_refl _, h.set hi (SbO.cells (h2.append w2)), .hsl _ _ _ _ _ _ _ _ hi⟩
                    · cases hu
              · cases hu
            · cases hu
          · cases hu
      · cases hu
    · cases hu
  · cases hu

theorem mmp_sb (h : SbH θ ι b b' H H') : EffS θ ι b b' (mmpV H).2 (mmpV H').2 (mmpV H).1 (mmpV H').1 :=
  ⟨ι ++ [H'.n], List.prefix_append _ _, h.new' (show SbO θ ι (.map [] 0) (.map [] 0) from ⟨rfl, .nil⟩), .map _ _ (by rw [h.n]; simp)⟩

end
end Go.Ns

/- Ns, part Sc: bounds of unknowns, and what is reckoned with them. -/
namespace Go.Ns

/-- What is known of an unknown beyond its bounds: it is not that other one and c; it is what an operation tells; it is a string's seed. -/
inductive Fct where
  | ne (j : Nat) (c : Int)
  | bin (op : BinOp) (k ky : IntKind) (x y : Int)
  | seed (i : Nat)

/-- What is known of an unknown. -/
inductive Dm where
  | rng (lo hi : Int)
  | bool
  | isB (b : Bool)
  | any
  | str (n : Nat)
  | inf (lo hi : Int) (f : Fct)

def Dm.ok : Dm → V → Prop
  | .rng lo hi, v => ∃ k x, v = .int k x ∧ lo ≤ x ∧ x ≤ hi
  | .bool, v => ∃ b, v = .bool b
  | .isB b, v => v = .bool b
  | .any, v => v.cell = true
  | .str n, v => ∃ s, v = .str s ∧ s.size ≤ n
  | .inf lo hi _, v => ∃ k x, v = .int k x ∧ lo ≤ x ∧ x ≤ hi

/-- What an integer stands for. -/
def repI (θ : List V) (n a : Int) : Prop := (symI n = none ∧ a = n) ∨ ∃ i c k z, symI n = some (i, c) ∧ θ[i]? = some (.int k z) ∧ a = z + c

/-- A string as a number (FNV): the word behind j letters. -/
def seedW (s : ByteArray) : Nat → Int
  | 0 => 14695981039346656037
  | j + 1 => match intV .xor .u64 (seedW s j) (IntKind.u64.wrap ((s[j]?.getD 0).toNat : Int)) with
    | some (.int _ z) => IntKind.u64.wrap (z * 1099511628211)
    | _ => 0

def Fct.ok (θ : List V) : Fct → V → Prop
  | .ne j c, v => ∀ k x, v = .int k x → ∃ k' y, θ[j]? = some (.int k' y) ∧ x ≠ y + c
  | .bin op k ky x y, v => ∃ a b z k2, repI θ x a ∧ repI θ y b ∧ v = .int k2 z ∧ ∀ P t, binV P op t (.int k a) (.int ky b) = some (.int k z)
  | .seed i, v => ∃ s, θ[i]? = some (.str s) ∧ v = .int .u64 (seedW s s.size)

theorem repI.mono {θ θ' : List V} (h : θ <+: θ') {n a : Int} (q : repI θ n a) : repI θ' n a := by
  rcases q with q | ⟨i, c, k, z, h1, h2, h3⟩
  · exact .inl q
  · exact .inr ⟨i, c, k, z, h1, pre_get h h2, h3⟩

theorem repI.det {θ : List V} {n a b : Int} (h : repI θ n a) (g : repI θ n b) : a = b := by
  rcases h with ⟨h1, h2⟩ | ⟨i, c, k, z, h1, h2, h3⟩ <;> rcases g with ⟨g1, g2⟩ | ⟨i', c', k', z', g1, g2, g3⟩
  · rw [h2, g2]
  · rw [h1] at g1; cases g1
  · rw [h1] at g1; cases g1
  · rw [h1] at g1; cases g1
    rw [h2] at g2; cases g2
    rw [h3, g3]

theorem Fct.ok.mono {θ θ' : List V} (h : θ <+: θ') {f : Fct} {v : V} (q : f.ok θ v) : f.ok θ' v := by
  cases f with
  | ne j c =>
    intro k x hv
    obtain ⟨k', y, h1, h2⟩ := q k x hv
    exact ⟨k', y, pre_get h h1, h2⟩
  | bin op k ky x y =>
    obtain ⟨a, b, z, k2, h1, h2, h3⟩ := q
    exact ⟨a, b, z, k2, h1.mono h, h2.mono h, h3⟩
  | seed i =>
    obtain ⟨s, h1, h2⟩ := q
    exact ⟨s, pre_get h h1, h2⟩

abbrev Env := List Dm

structure EnvOk (θ : List V) (E : Env) : Prop where
  len : θ.length = E.length
  ok : ∀ (i : Nat) (d : Dm) (v : V), E[i]? = some d → θ[i]? = some v → d.ok v
  inf : ∀ (i : Nat) (lo hi : Int) (f : Fct) (v : V), E[i]? = some (.inf lo hi f) → θ[i]? = some v → f.ok θ v

section
variable {θ : List V} {ι : List Nat} {E : Env}

theorem EnvOk.look (h : EnvOk θ E) {i : Nat} {d : Dm} (hd : E[i]? = some d) : ∃ v, θ[i]? = some v ∧ d.ok v := by
  have hl := (List.getElem?_eq_some_iff.1 hd).1
  refine ⟨θ[i]'(by rw [h.len]; exact hl), by simp [h.len, hl], h.ok i d _ hd (by simp [h.len, hl])⟩

theorem EnvOk.set (h : EnvOk θ E) {i : Nat} {d : Dm} (hd : ∀ v, θ[i]? = some v → d.ok v) (hf : ∀ lo hi f v, d = .inf lo hi f → θ[i]? = some v → f.ok θ v := by intro _ _ _ _ q; cases q) : EnvOk θ (E.set i d) := by
  refine ⟨by simp [h.len], fun j d' v h1 h2 => ?_, fun j lo hi f v h1 h2 => ?_⟩
  · by_cases hq : i = j
    · subst hq
      have hl : i < E.length := by
        have := (List.getElem?_eq_some_iff.1 h1).1
        simpa using this
      rw [List.getElem?_set_self hl] at h1
      cases h1
      exact hd v h2
    · rw [List.getElem?_set_ne hq] at h1
      exact h.ok j d' v h1 h2
  · by_cases hq : i = j
    · subst hq
      have hl : i < E.length := by
        have := (List.getElem?_eq_some_iff.1 h1).1
        simpa using this
      rw [List.getElem?_set_self hl] at h1
      cases h1
      exact hf _ _ _ v rfl h2
    · rw [List.getElem?_set_ne hq] at h1
      exact h.inf j lo hi f v h1 h2

theorem EnvOk.push (h : EnvOk θ E) {d : Dm} {v : V} (hd : d.ok v) (hf : ∀ lo hi f, d = .inf lo hi f → f.ok (θ ++ [v]) v := by intro _ _ _ q; cases q) : EnvOk (θ ++ [v]) (E ++ [d]) := by
  have key : ∀ (j : Nat) (d' : Dm) (v' : V), (E ++ [d])[j]? = some d' → (θ ++ [v])[j]? = some v' → (E[j]? = some d' ∧ θ[j]? = some v') ∨ (d' = d ∧ v' = v) := by
    intro j d' v' h1 h2
    by_cases hj : j < θ.length
    · rw [List.getElem?_append_left hj] at h2
      rw [List.getElem?_append_left (by rw [← h.len]; exact hj)] at h1
      exact .inl ⟨h1, h2⟩
    · rw [List.getElem?_append_right (by omega)] at h2
      rw [List.getElem?_append_right (by rw [← h.len]; omega), ← h.len] at h1
      have h0 : j - θ.length = 0 := by
        by_cases h0 : j - θ.length = 0
        · exact h0
        · rw [List.getElem?_eq_none (by simp; omega)] at h2; cases h2
      rw [h0] at h1 h2
      simp at h1 h2
      exact .inr ⟨h1.symm, h2.symm⟩
  refine ⟨by simp [h.len], fun j d' v' h1 h2 => ?_, fun j lo hi f v' h1 h2 => ?_⟩
  · rcases key j d' v' h1 h2 with ⟨a, b⟩ | ⟨rfl, rfl⟩
    · exact h.ok j d' v' a b
    · exact hd
  · rcases key j _ v' h1 h2 with ⟨a, b⟩ | ⟨a, rfl⟩
    · exact (h.inf j lo hi f v' a b).mono (List.prefix_append _ _)
    · exact hf lo hi f a.symm

/-- The bounds of an integer. -/
def rngI (E : Env) (n : Int) : Option (Int × Int) :=
  match symI n with
  | none => some (n, n)
  | some (i, c) => match E[i]? with
    | some (.rng lo hi) => some (lo + c, hi + c)
    | some (.inf lo hi _) => some (lo + c, hi + c)
    | _ => none

theorem rngI_ok (h : EnvOk θ E) {k : IntKind} {n : Int} {v' : V} (hv : Sb θ ι (.int k n) v') {lo hi : Int} (hr : rngI E n = some (lo, hi)) : ∃ x, v' = .int k x ∧ lo ≤ x ∧ x ≤ hi := by
  unfold rngI at hr
  cases hv with
  | int _ _ hn => rw [hn] at hr; cases hr; exact ⟨_, rfl, Int.le_refl _, Int.le_refl _⟩
  | sym _ _ i c k' x hn hx =>
    rw [hn] at hr
    simp only at hr
    split at hr
    · rename_i l u hE
      cases hr
      obtain ⟨k2, x2, h1, h2, h3⟩ := h.ok i _ _ hE hx
      cases h1
      exact ⟨_, rfl, by omega, by omega⟩
    · rename_i l u f hE
      cases hr
      obtain ⟨k2, x2, h1, h2, h3⟩ := h.ok i _ _ hE hx
      cases h1
      exact ⟨_, rfl, by omega, by omega⟩
    · cases hr

/-- An integer whose bounds meet is known. -/
def nrm (E : Env) (v : V) : V :=
  match v with
  | .int k n => match symI n, rngI E n with
    | some _, some (lo, hi) => if lo = hi ∧ symI lo = none then .int k lo else .int k n
    | _, _ => .int k n
  | .flt .f32 i => match E[i]? with
    | some (.isB b) => .bool b
    | _ => .flt .f32 i
  | v => v

theorem nrm_ok (h : EnvOk θ E) {v v' : V} (hv : Sb θ ι v v') : Sb θ ι (nrm E v) v' := by
  unfold nrm
  split
  · rename_i k n
    split
    · rename_i q1 lo hi hs hr
      split
      · rename_i hq
        obtain ⟨x, rfl, h1, h2⟩ := rngI_ok h hv hr
        have : x = lo := by omega
        subst this
        exact .int _ _ hq.2
      · exact hv
    · exact hv
  · rename_i i
    split
    · rename_i b hE
      cases hv with
      | bsym _ b' hb =>
      have := h.ok i _ _ hE hb
      simp only [Dm.ok, V.bool.injEq] at this
      subst this
      exact .bool _
    · exact hv
  · exact hv

/-- A new unknown integer. -/
def freshI (E : Env) (k : IntKind) (lo hi : Int) (K : Env → V → Bool) : Bool :=
  decide (E.length < 2 ^ 90) && K (E ++ [.rng lo hi]) (.int k (encI E.length 0))

theorem fresh_ok (h : EnvOk θ E) {k : IntKind} {lo hi x : Int} (h1 : lo ≤ x) (h2 : x ≤ hi) : EnvOk (θ ++ [.int k x]) (E ++ [.rng lo hi]) ∧ Sb (θ ++ [.int k x]) ι (.int k (encI E.length 0)) (.int k x) := by
  refine ⟨h.push ⟨k, x, rfl, h1, h2⟩, ?_⟩
  have := Sb.sym (θ := θ ++ [.int k x]) (ι := ι) k (encI E.length 0) E.length 0 k x (symI_enc (by decide) (by decide)) (by rw [← h.len]; simp)
  simpa using this

/-- An unknown string: how long at most. -/
def strU (E : Env) : V → Option Nat
  | .flt .f64 i => match E[i]? with | some (.str m) => some m | _ => none
  | _ => none

theorem strU_ok (h : EnvOk θ E) {x x' : V} (hx : Sb θ ι x x') {m : Nat} (hq : strU E x = some m) : ∃ s, x' = .str s ∧ s.size ≤ m := by
  unfold strU at hq
  split at hq
  · rename_i i
    split at hq
    · rename_i m' hE
      cases hq
      cases hx with
      | opq _ v h1 h2 => exact h.ok i _ _ hE h1
    · cases hq
  · cases hq

/-! ### Which is less? -/
def cutHi (E : Env) (i : Nat) (m : Int) : Env := match E[i]? with | some (.rng lo hi) => E.set i (.rng lo (min hi m)) | some (.inf lo hi f) => E.set i (.inf lo (min hi m) f) | _ => E
def cutLo (E : Env) (i : Nat) (m : Int) : Env := match E[i]? with | some (.rng lo hi) => E.set i (.rng (max lo m) hi) | some (.inf lo hi f) => E.set i (.inf (max lo m) hi f) | _ => E

theorem cutHi_ok (h : EnvOk θ E) {i : Nat} {m : Int} (hx : ∀ k x, θ[i]? = some (.int k x) → x ≤ m) : EnvOk θ (cutHi E i m) := by
  unfold cutHi
  split
  · rename_i lo hi hE
    refine h.set fun v hv => ?_
    obtain ⟨k, x, rfl, h1, h2⟩ := h.ok i _ _ hE hv
    have := hx k x hv
    exact ⟨k, x, rfl, h1, by omega⟩
  · rename_i lo hi f hE
    refine h.set (fun v hv => ?_) (fun lo' hi' f' v q hv => by cases q; exact h.inf i _ _ _ v hE hv)
    obtain ⟨k, x, rfl, h1, h2⟩ := h.ok i _ _ hE hv
    have := hx k x hv
    exact ⟨k, x, rfl, h1, by omega⟩
  · exact h
theorem cutLo_ok (h : EnvOk θ E) {i : Nat} {m : Int} (hx : ∀ k x, θ[i]? = some (.int k x) → m ≤ x) : EnvOk θ (cutLo E i m) := by
  unfold cutLo
  split
  · rename_i lo hi hE
    refine h.set fun v hv => ?_
    obtain ⟨k, x, rfl, h1, h2⟩ := h.ok i _ _ hE hv
    have := hx k x hv
    exact ⟨k, x, rfl, by omega, h2⟩
  · rename_i lo hi f hE
    refine h.set (fun v hv => ?_) (fun lo' hi' f' v q hv => by cases q; exact h.inf i _ _ _ v hE hv)
    obtain ⟨k, x, rfl, h1, h2⟩ := h.ok i _ _ hE hv
    have := hx k x hv
    exact ⟨k, x, rfl, by omega, h2⟩
  · exact h

/-- Is it known that the unknown i is not the unknown j and c? -/
def neK (E : Env) (i j : Nat) (c : Int) : Bool := match E[i]? with | some (.inf _ _ (.ne j' c')) => j' == j && c' == c | _ => false
def addNe (E : Env) (i j : Nat) (c : Int) : Env := match E[i]? with | some (.rng lo hi) => E.set i (.inf lo hi (.ne j c)) | some (.inf lo hi (.bin ..)) => E.set i (.inf lo hi (.ne j c)) | _ => E

theorem neK_ok (h : EnvOk θ E) {i j : Nat} {c : Int} (hq : neK E i j c = true) {k k' : IntKind} {x y : Int} (hi : θ[i]? = some (.int k x)) (hj : θ[j]? = some (.int k' y)) : x ≠ y + c := by
  unfold neK at hq
  split at hq
  · rename_i lo hi2 j' c' hE
    simp only [Bool.and_eq_true, beq_iff_eq] at hq
    obtain ⟨rfl, rfl⟩ := hq
    obtain ⟨k2, y2, h1, h2⟩ := h.inf i _ _ _ _ hE hi k x rfl
    rw [hj] at h1; cases h1
    exact h2
  · cases hq

theorem addNe_ok (h : EnvOk θ E) {i j : Nat} {c : Int} {k k' : IntKind} {x y : Int} (hi : θ[i]? = some (.int k x)) (hj : θ[j]? = some (.int k' y)) (hn : x ≠ y + c) : EnvOk θ (addNe E i j c) := by
  have key : ∀ lo hi2, (∀ v, θ[i]? = some v → (Dm.rng lo hi2).ok v) → EnvOk θ (E.set i (.inf lo hi2 (.ne j c))) := by
    intro lo hi2 hE
    refine h.set (fun v hv => hE v hv) (fun lo' hi' f' v q hv => ?_)
    cases q
    rw [hi] at hv; cases hv
    intro k2 x2 e
    cases e
    exact ⟨k', y, hj, hn⟩
  unfold addNe
  split
  · rename_i lo hi2 hE
    exact key lo hi2 fun v hv => h.ok i _ v hE hv
  · rename_i lo hi2 _ _ _ _ _ hE
    exact key lo hi2 fun v hv => h.ok i (.inf lo hi2 _) v hE hv
  · exact h

/-- x ≤ y? -/
def leA (E : Env) (n m : Int) (K : Env → Bool → Bool) : Bool :=
  match rngI E n, rngI E m with
  | some (a, b), some (c, d) =>
    if b ≤ c then K E true
    else if d < a then K E false
    else match symI n, symI m with
      | some (i, o), none => K (cutHi E i (m - o)) true && K (cutLo E i (m - o + 1)) false
      | none, some (i, o) => K (cutLo E i (n - o)) true && K (cutHi E i (n - o - 1)) false
      | _, _ => K E true && K E false
  | _, _ => false

theorem leA_ok (h : EnvOk θ E) {k k' : IntKind} {n m : Int} {x y : Int} (hx : Sb θ ι (.int k n) (.int k x)) (hy : Sb θ ι (.int k' m) (.int k' y)) {K : Env → Bool → Bool} (hK : leA E n m K = true) :
    ∃ E2, EnvOk θ E2 ∧ K E2 (decide (x ≤ y)) = true := by
  unfold leA at hK
  split at hK
  · rename_i a b c d h1 h2
    obtain ⟨x', e1, a1, a2⟩ := rngI_ok h hx h1
    obtain ⟨y', e2, b1, b2⟩ := rngI_ok h hy h2
    cases e1; cases e2
    split at hK
    · exact ⟨E, h, by rw [decide_eq_true (by omega)]; exact hK⟩
    · split at hK
      · exact ⟨E, h, by rw [decide_eq_false (by omega)]; exact hK⟩
      · split at hK
        · rename_i i o s1 s2
          simp only [Bool.and_eq_true] at hK
          cases hy with
          | sym _ _ _ _ _ _ q => rw [s2] at q; cases q
          | int =>
          cases hx with
          | int _ _ q => rw [s1] at q; cases q
          | sym _ _ i' o' k2 z q hz =>
            rw [s1] at q; cases q
            by_cases hq : z + o ≤ m
            · exact ⟨_, cutHi_ok h (i := i) (m := m - o) (fun k x hx => by rw [hz] at hx; cases hx; omega), by rw [decide_eq_true hq]; exact hK.1⟩
            · exact ⟨_, cutLo_ok h (i := i) (m := m - o + 1) (fun k x hx => by rw [hz] at hx; cases hx; omega), by rw [decide_eq_false hq]; exact hK.2⟩
        · rename_i i o s1 s2
          simp only [Bool.and_eq_true] at hK
          cases hx with
          | sym _ _ _ _ _ _ q => rw [s1] at q; cases q
          | int =>
          cases hy with
          | int _ _ q => rw [s2] at q; cases q
          | sym _ _ i' o' k2 z q hz =>
            rw [s2] at q; cases q
            by_cases hq : n ≤ z + o
            · exact ⟨_, cutLo_ok h (i := i) (m := n - o) (fun k x hx => by rw [hz] at hx; cases hx; omega), by rw [decide_eq_true hq]; exact hK.1⟩
            · exact ⟨_, cutHi_ok h (i := i) (m := n - o - 1) (fun k x hx => by rw [hz] at hx; cases hx; omega), by rw [decide_eq_false hq]; exact hK.2⟩
        · simp only [Bool.and_eq_true] at hK
          by_cases hq : x ≤ y
          · exact ⟨E, h, by rw [decide_eq_true hq]; exact hK.1⟩
          · exact ⟨E, h, by rw [decide_eq_false hq]; exact hK.2⟩
  · cases hK

/-- x = y? -/
def eqA (E : Env) (n m : Int) (K : Env → Bool → Bool) : Bool :=
  match rngI E n, rngI E m with
  | some (a, b), some (c, d) =>
    if n = m then K E true
    else if b < c ∨ d < a then K E false
    else if a = b ∧ c = d then K E true
    else match symI n, symI m with
      | some (i, o), none => K (cutLo (cutHi E i (m - o)) i (m - o)) true && (decide (m = a) || K (cutHi E i (m - o - 1)) false) && (decide (m = b) || K (cutLo E i (m - o + 1)) false)
      | none, some (i, o) => K (cutLo (cutHi E i (n - o)) i (n - o)) true && (decide (n = c) || K (cutHi E i (n - o - 1)) false) && (decide (n = d) || K (cutLo E i (n - o + 1)) false)
      | some (i, o), some (j, o2) => if i = j then K E false else if (neK E i j (o2 - o) || neK E j i (o - o2)) = true then K E false else K E true && K (addNe E i j (o2 - o)) false
      | none, none => false
  | _, _ => false

theorem eqA_ok (h : EnvOk θ E) {k k' : IntKind} {n m : Int} {x y : Int} (hx : Sb θ ι (.int k n) (.int k x)) (hy : Sb θ ι (.int k' m) (.int k' y)) {K : Env → Bool → Bool} (hK : eqA E n m K = true) :
    ∃ E2, EnvOk θ E2 ∧ K E2 (decide (x = y)) = true := by
  unfold eqA at hK
  split at hK
  · rename_i a b c d h1 h2
    obtain ⟨x', e1, a1, a2⟩ := rngI_ok h hx h1
    obtain ⟨y', e2, b1, b2⟩ := rngI_ok h hy h2
    cases e1; cases e2
    split at hK
    · rename_i hnm
      subst hnm
      have : x = y := by
        cases hx with
        | int _ _ q =>
          cases hy with
          | int => rfl
          | sym _ _ _ _ _ _ q' => rw [q] at q'; cases q'
        | sym _ _ i o k2 z q hz =>
          cases hy with
          | int _ _ q' => rw [q] at q'; cases q'
          | sym _ _ i' o' k3 z' q' hz' => rw [q] at q'; cases q'; rw [hz] at hz'; cases hz'; rfl
      exact ⟨E, h, by rw [decide_eq_true this]; exact hK⟩
    · rename_i hnm
      split at hK
      · exact ⟨E, h, by rw [decide_eq_false (by omega)]; exact hK⟩
      · split at hK
        · exact ⟨E, h, by rw [decide_eq_true (by omega)]; exact hK⟩
        · split at hK
          · rename_i i o s1 s2
            simp only [Bool.and_eq_true, Bool.or_eq_true, decide_eq_true_eq] at hK
            cases hy with
            | sym _ _ _ _ _ _ q => rw [s2] at q; cases q
            | int =>
            cases hx with
            | int _ _ q => rw [s1] at q; cases q
            | sym _ _ i' o' k2 z q hz =>
              rw [s1] at q; cases q
              by_cases hq : z + o = m
              · exact ⟨_, cutLo_ok (cutHi_ok h (i := i) (m := m - o) (fun k x hx => by rw [hz] at hx; cases hx; omega)) (i := i) (m := m - o) (fun k x hx => by rw [hz] at hx; cases hx; omega), by rw [decide_eq_true hq]; exact hK.1.1⟩
              · rw [decide_eq_false hq]
                by_cases hl : z + o < m
                · exact ⟨_, cutHi_ok h (i := i) (m := m - o - 1) (fun k x hx => by rw [hz] at hx; cases hx; omega), hK.1.2.resolve_left (by omega)⟩
                · exact ⟨_, cutLo_ok h (i := i) (m := m - o + 1) (fun k x hx => by rw [hz] at hx; cases hx; omega), hK.2.resolve_left (by omega)⟩
          · rename_i i o s1 s2
            simp only [Bool.and_eq_true, Bool.or_eq_true, decide_eq_true_eq] at hK
            cases hx with
            | sym _ _ _ _ _ _ q => rw [s1] at q; cases q
            | int =>
            cases hy with
            | int _ _ q => rw [s2] at q; cases q
            | sym _ _ i' o' k2 z q hz =>
              rw [s2] at q; cases q
              by_cases hq : n = z + o
              · exact ⟨_, cutLo_ok (cutHi_ok h (i := i) (m := n - o) (fun k x hx => by rw [hz] at hx; cases hx; omega)) (i := i) (m := n - o) (fun k x hx => by rw [hz] at hx; cases hx; omega), by rw [decide_eq_true hq]; exact hK.1.1⟩
              · rw [decide_eq_false hq]
                by_cases hl : z + o < n
                · exact ⟨_, cutHi_ok h (i := i) (m := n - o - 1) (fun k x hx => by rw [hz] at hx; cases hx; omega), hK.1.2.resolve_left (by omega)⟩
                · exact ⟨_, cutLo_ok h (i := i) (m := n - o + 1) (fun k x hx => by rw [hz] at hx; cases hx; omega), hK.2.resolve_left (by omega)⟩
          · rename_i i o j o2 s1 s2
            cases hx with
            | int _ _ q => rw [s1] at q; cases q
            | sym _ _ i' o' k2 z q hz =>
            rw [s1] at q; cases q
            cases hy with
            | int _ _ q => rw [s2] at q; cases q
            | sym _ _ i'' o'' k3 z' q hz' =>
            rw [s2] at q; cases q
            split at hK
            · rename_i hij
              subst hij
              rw [hz] at hz'
              cases hz'
              have : ¬ (z + o = z + o2) := by
                intro hq
                apply hnm
                have ho : o = o2 := by omega
                subst ho
                exact symI_inj s1 s2
              exact ⟨E, h, by rw [decide_eq_false this]; exact hK⟩
            · split at hK
              · rename_i hne
                have : ¬ (z + o = z' + o2) := by
                  simp only [Bool.or_eq_true] at hne
                  rcases hne with hne | hne
                  · have := neK_ok h hne hz hz'; omega
                  · have := neK_ok h hne hz' hz; omega
                exact ⟨E, h, by rw [decide_eq_false this]; exact hK⟩
              · simp only [Bool.and_eq_true] at hK
                by_cases hq : z + o = z' + o2
                · exact ⟨E, h, by rw [decide_eq_true hq]; exact hK.1⟩
                · exact ⟨_, addNe_ok h (i := i) (j := j) (c := o2 - o) hz hz' (by omega), by rw [decide_eq_false hq]; exact hK.2⟩
          · cases hK
  · cases hK

end
end Go.Ns

/- Ns, part Sd: integers, bools with unknowns: one and two operands. -/
namespace Go.Ns

theorem wrap_id {k : IntKind} {n : Int} (h1 : k.min ≤ n) (h2 : n ≤ k.max) : k.wrap n = n := by
  cases k <;> simp [IntKind.wrap, IntKind.bits, IntKind.signed, IntKind.min, IntKind.max] at h1 h2 ⊢ <;> omega

theorem wrap_in (k : IntKind) (n : Int) : k.min ≤ k.wrap n ∧ k.wrap n ≤ k.max := by
  cases k <;> simp [IntKind.wrap, IntKind.bits, IntKind.signed, IntKind.min, IntKind.max] <;> omega

/-- More unknowns, that lead nowhere. -/
def Grow (θ θ2 : List V) : Prop := ∃ t, θ2 = θ ++ t ∧ ∀ v ∈ t, ∀ n, belowV n v = true

theorem Grow.refl (θ : List V) : Grow θ θ := ⟨[], by simp, by simp⟩
theorem Grow.pre {θ θ2 : List V} (h : Grow θ θ2) : θ <+: θ2 := let ⟨t, e, _⟩ := h; ⟨t, e.symm⟩
theorem Grow.trans {a b c : List V} (h : Grow a b) (k : Grow b c) : Grow a c := by
  obtain ⟨t, rfl, h1⟩ := h
  obtain ⟨u, rfl, h2⟩ := k
  exact ⟨t ++ u, by simp, fun v hv => (List.mem_append.1 hv).elim (h1 v) (h2 v)⟩
theorem Grow.int (θ : List V) (k : IntKind) (x : Int) : Grow θ (θ ++ [.int k x]) := ⟨_, rfl, fun v hv n => by simp at hv; subst hv; rfl⟩

theorem SbH.grow {θ θ2 : List V} {ι : List Nat} {b b' : Nat} {H H' : Heap} (h : SbH θ ι b b' H H') (g : Grow θ θ2) : SbH θ2 ι b b' H H' := by
  refine ⟨h.n, h.inj, h.lt, fun i id o hi hg => ?_, h.base, h.low, fun i v hv => ?_⟩
  · obtain ⟨o', h1, h2⟩ := h.get i id o hi hg
    exact ⟨o', h1, h2.mono g.pre (List.prefix_refl _)⟩
  · obtain ⟨t, rfl, h1⟩ := g
    by_cases hq : i < θ.length
    · rw [List.getElem?_append_left hq] at hv; exact h.opq i v hv
    · rw [List.getElem?_append_right (by omega)] at hv
      exact h1 v (List.mem_of_getElem? hv) _

/-- What is reckoned stands for what is computed. -/
def RA (θ : List V) (ι : List Nat) (conc : Option V) (K : Env → V → Bool) : Prop :=
  ∃ θ2 E2 u u', Grow θ θ2 ∧ EnvOk θ2 E2 ∧ conc = some u' ∧ Sb θ2 ι u u' ∧ K E2 u = true

section
variable {θ : List V} {ι : List Nat} {E : Env}

theorem RA.same (h : EnvOk θ E) {conc : Option V} {u u' : V} (hc : conc = some u') (hu : Sb θ ι u u') {K : Env → V → Bool} (hK : K E u = true) : RA θ ι conc K :=
  ⟨θ, E, u, u', .refl _, h, hc, hu, hK⟩

theorem freshI_ok (h : EnvOk θ E) {k : IntKind} {lo hi x : Int} (h1 : lo ≤ x) (h2 : x ≤ hi) {conc : Option V} (hc : conc = some (.int k x)) {K : Env → V → Bool} (hK : freshI E k lo hi K = true) : RA θ ι conc K := by
  unfold freshI at hK
  simp only [Bool.and_eq_true] at hK
  obtain ⟨e1, e2⟩ := fresh_ok (ι := ι) h (k := k) h1 h2
  exact ⟨_, _, _, _, .int θ k x, e1, hc, e2, hK.2⟩

/-- A sum, if it stays the unknown and something. -/
def keepI (E : Env) (k : IntKind) (n m : Int) : Bool :=
  match symI n, symI m, symI (n + m), rngI E n with
  | some (i, c), none, some (j, d), some (a, b) => decide (i = j ∧ d = c + m ∧ k.min ≤ a + m ∧ b + m ≤ k.max)
  | _, _, _, _ => false

theorem keepI_ok (h : EnvOk θ E) {k : IntKind} {n m x y : Int} (hx : Sb θ ι (.int k n) (.int k x)) (hy : Sb θ ι (.int k m) (.int k y)) (hk : keepI E k n m = true) : Sb θ ι (.int k (n + m)) (.int k (k.wrap (x + y))) := by
  unfold keepI at hk
  split at hk
  · rename_i i c j d a b s1 s2 s3 hr
    simp only [decide_eq_true_eq] at hk
    obtain ⟨rfl, rfl, h1, h2⟩ := hk
    obtain ⟨x', e, a1, a2⟩ := rngI_ok h hx hr
    cases e
    cases hy with
    | sym _ _ _ _ _ _ q => rw [s2] at q; cases q
    | int =>
    cases hx with
    | int _ _ q => rw [s1] at q; cases q
    | sym _ _ i' o' k2 z q hz =>
    rw [s1] at q; cases q
    rw [wrap_id (by omega) (by omega), show z + c + m = z + (c + m) by omega]
    exact .sym _ _ _ _ _ _ s3 hz
  · cases hk

def arI (E : Env) (op : BinOp) (n m : Int) : Option (Int × Int) :=
  match rngI E n, rngI E m with
  | some (a, b), some (c, d) => match op with
    | .add => some (a + c, b + d)
    | .sub => some (a - d, b - c)
    | .mul => if c = d then (if 0 ≤ c then some (a * c, b * c) else some (b * c, a * c)) else if a = b then (if 0 ≤ a then some (c * a, d * a) else some (d * a, c * a)) else none
    | _ => none
  | _, _ => none

def arOp (op : BinOp) (x y : Int) : Option Int :=
  match op with
  | .add => some (x + y)
  | .sub => some (x - y)
  | .mul => some (x * y)
  | _ => none

theorem arI_ok (h : EnvOk θ E) {k k' : IntKind} {op : BinOp} {n m x y : Int} (hx : Sb θ ι (.int k n) (.int k x)) (hy : Sb θ ι (.int k' m) (.int k' y)) {lo hi : Int} (hr : arI E op n m = some (lo, hi)) : ∃ z, arOp op x y = some z ∧ lo ≤ z ∧ z ≤ hi := by
  unfold arI at hr
  split at hr
  · rename_i a b c d h1 h2
    obtain ⟨x', e1, a1, a2⟩ := rngI_ok h hx h1
    obtain ⟨y', e2, b1, b2⟩ := rngI_ok h hy h2
    cases e1; cases e2
    split at hr
    · cases hr; exact ⟨_, rfl, by omega, by omega⟩
    · cases hr; exact ⟨_, rfl, by omega, by omega⟩
    · split at hr
      · rename_i hcd
        have : y = c := by omega
        subst this
        split at hr
        · rename_i h0
          cases hr
          exact ⟨_, rfl, Int.mul_le_mul_of_nonneg_right a1 h0, Int.mul_le_mul_of_nonneg_right a2 h0⟩
        · rename_i h0
          cases hr
          exact ⟨_, rfl, Int.mul_le_mul_of_nonpos_right a2 (by omega), Int.mul_le_mul_of_nonpos_right a1 (by omega)⟩
      · split at hr
        · rename_i hab
          have : x = a := by omega
          subst this
          split at hr
          · rename_i h0
            cases hr
            exact ⟨_, rfl, by rw [Int.mul_comm x y]; exact Int.mul_le_mul_of_nonneg_right b1 h0, by rw [Int.mul_comm x y]; exact Int.mul_le_mul_of_nonneg_right b2 h0⟩
          · rename_i h0
            cases hr
            exact ⟨_, rfl, by rw [Int.mul_comm x y]; exact Int.mul_le_mul_of_nonpos_right b2 (by omega), by rw [Int.mul_comm x y]; exact Int.mul_le_mul_of_nonpos_right b1 (by omega)⟩
        · cases hr
    · cases hr
  · cases hr

/-- Operations that wrap. -/
def wrA (E : Env) (op : BinOp) (k : IntKind) (n m : Int) (K : Env → V → Bool) : Bool :=
  match arI E op n m with
  | some (lo, hi) => if k.min ≤ lo ∧ hi ≤ k.max then freshI E k lo hi K else freshI E k k.min k.max K
  | none => freshI E k k.min k.max K

def sameI (n : Int) (v : V) : Bool := match v with | .int _ m => decide (n = m) | _ => false

/-- Two integers, of which one at least is unknown. -/
def inA (E : Env) (op : BinOp) (k : IntKind) (n m : Int) (K : Env → V → Bool) : Bool :=
  match op with
  | .add => if keepI E k n m = true then K E (.int k (n + m)) else if keepI E k m n = true then K E (.int k (m + n)) else wrA E .add k n m K
  | .sub => if keepI E k n (-m) = true ∧ (symI m).isNone = true ∧ (symI (-m)).isNone = true then K E (.int k (n + -m)) else wrA E .sub k n m K
  | .mul => wrA E .mul k n m K
  | .quo => match rngI E n, symI m with
    | some (a, b), none => decide (0 < m) && (if k.min ≤ a.tdiv m ∧ b.tdiv m ≤ k.max then freshI E k (a.tdiv m) (b.tdiv m) K else freshI E k k.min k.max K)
    | _, _ => false
  | .rem => match rngI E n, symI m with
    | some (a, b), none => decide (0 < m) && (if 0 ≤ a ∧ b < m then K E (.int k n) else if (decide (0 ≤ a ∧ a / m = b / m ∧ b ≤ k.max) && (symI (-(a / m * m))).isNone && keepI E k n (-(a / m * m))) = true then K E (.int k (n + -(a / m * m))) else freshI E k (if 0 ≤ a then 0 else -(m - 1)) (if b ≤ 0 then 0 else m - 1) K)
    | _, _ => false
  | .eql => eqA E n m fun E b => K E (.bool b)
  | .neq => eqA E n m fun E b => K E (.bool !b)
  | .leq => leA E n m fun E b => K E (.bool b)
  | .geq => leA E m n fun E b => K E (.bool b)
  | .lss => leA E m n fun E b => K E (.bool !b)
  | .gtr => leA E n m fun E b => K E (.bool !b)
  | .and | .or | .xor | .andNot => freshI E k k.min k.max K
  | _ => false

theorem tdiv_mono {a b m : Int} (hm : 0 < m) (h : a ≤ b) : a.tdiv m ≤ b.tdiv m := by
  exact Int.tdiv_le_tdiv hm h

theorem inA_ok (h : EnvOk θ E) {op : BinOp} {k : IntKind} {n m x y : Int} (hx : Sb θ ι (.int k n) (.int k x)) (hy : Sb θ ι (.int k m) (.int k y)) {K : Env → V → Bool} (hK : inA E op k n m K = true) : RA θ ι (intV op k x y) K := by
  have wr : ∀ {op : BinOp} {z : Int}, arOp op x y = some z → wrA E op k n m K = true → ∀ {conc : Option V}, conc = some (.int k (k.wrap z)) → RA θ ι conc K := by
    intro op z hz hq conc hc
    unfold wrA at hq
    split at hq
    · rename_i lo hi hr
      obtain ⟨z', e, h1, h2⟩ := arI_ok h hx hy hr
      rw [hz] at e; cases e
      split at hq
      · rename_i hb
        rw [wrap_id (by omega) (by omega)] at hc
        exact freshI_ok h h1 h2 hc hq
      · exact freshI_ok h (wrap_in k _).1 (wrap_in k _).2 hc hq
    · exact freshI_ok h (wrap_in k _).1 (wrap_in k _).2 hc hq
  have cmp : ∀ {E2 : Env} {p : Bool} {conc : Option V}, EnvOk θ E2 → conc = some (.bool p) → K E2 (.bool p) = true → RA θ ι conc K := fun h2 hc hk => ⟨θ, _, _, _, .refl _, h2, hc, .bool _, hk⟩
  unfold inA at hK
  split at hK
  · split at hK
    · rename_i q; exact RA.same h rfl (keepI_ok h hx hy q) hK
    · split at hK
      · rename_i q; exact RA.same h (by simp only [intV]; rw [Int.add_comm]) (keepI_ok h hy hx q) hK
      · exact wr rfl hK rfl
  · split at hK
    · rename_i q
      obtain ⟨q1, q2, q3⟩ := q
      have hy' : Sb θ ι (.int k (-m)) (.int k (-y)) := by
        cases hy with
        | sym _ _ _ _ _ _ q => rw [q] at q2; cases q2
        | int => exact .int _ _ (by simpa using q3)
      exact RA.same h (by simp only [intV]; rw [Int.sub_eq_add_neg]) (keepI_ok h hx hy' q1) hK
    · exact wr rfl hK rfl
  · exact wr rfl hK rfl
  · split at hK
    · rename_i a b hr hs
      simp only [Bool.and_eq_true, decide_eq_true_eq] at hK
      obtain ⟨hm, hK⟩ := hK
      obtain ⟨x', e1, a1, a2⟩ := rngI_ok h hx hr
      cases e1
      cases hy with
      | sym _ _ _ _ _ _ q => rw [hs] at q; cases q
      | int =>
      have hc : intV .quo k x m = some (.int k (k.wrap (x.tdiv m))) := by simp only [intV]; rw [if_neg (by omega)]
      have l1 := tdiv_mono hm a1
      have l2 := tdiv_mono hm a2
      split at hK
      · rename_i hb
        rw [wrap_id (by omega) (by omega)] at hc
        exact freshI_ok h l1 l2 hc hK
      · exact freshI_ok h (wrap_in k _).1 (wrap_in k _).2 hc hK
    · cases hK
  · split at hK
    · rename_i a b hr hs
      simp only [Bool.and_eq_true, decide_eq_true_eq] at hK
      obtain ⟨hm, hK⟩ := hK
      obtain ⟨x', e1, a1, a2⟩ := rngI_ok h hx hr
      cases e1
      cases hy with
      | sym _ _ _ _ _ _ q => rw [hs] at q; cases q
      | int =>
      have hc : intV .rem k x m = some (.int k (x.tmod m)) := by simp only [intV]; rw [if_neg (by omega)]
      split at hK
      · rename_i hb
        have : x.tmod m = x := by rw [Int.tmod_eq_emod_of_nonneg (by omega)]; exact Int.emod_eq_of_lt (by omega) (by omega)
        rw [this] at hc
        exact RA.same h hc hx hK
      · split at hK
        · rename_i hq
          obtain ⟨⟨⟨q1, q2, q3⟩, q4⟩, q5⟩ := hq
          have hy2 : Sb θ ι (.int k (-(a / m * m))) (.int k (-(a / m * m))) := .int _ _ (by simpa using q4)
          have hs2 := keepI_ok h hx hy2 q5
          have e1 : x / m = a / m := by
            have l1 := Int.ediv_le_ediv hm a1
            have l2 := Int.ediv_le_ediv hm a2
            omega
          have e2 : x.tmod m = x + -(a / m * m) := by
            rw [Int.tmod_eq_emod_of_nonneg (by omega), Int.emod_def, e1, Int.mul_comm m]
            omega
          have e3 : 0 ≤ x + -(a / m * m) := by rw [← e2]; exact Int.tmod_nonneg _ (by omega)
          have e4 : 0 ≤ a / m * m := Int.mul_nonneg (Int.ediv_nonneg (by omega) (by omega)) (by omega)
          have e5 : k.min ≤ 0 := by cases k <;> decide
          rw [wrap_id (by omega) (by omega), ← e2] at hs2
          exact RA.same h hc hs2 hK
        · refine freshI_ok h ?_ ?_ hc hK
          · split
            · exact Int.tmod_nonneg _ (by omega)
            · have := Int.lt_tmod_of_pos x hm; omega
          · split
            · have h0 := Int.tmod_nonneg (a := -x) m (by omega)
              rw [Int.neg_tmod] at h0
              omega
            · have := Int.tmod_lt_of_pos x hm; omega
    · cases hK
  · obtain ⟨E2, h2, h3⟩ := eqA_ok h hx hy hK
    exact cmp h2 rfl h3
  · obtain ⟨E2, h2, h3⟩ := eqA_ok h hx hy hK
    exact cmp h2 rfl h3
  · obtain ⟨E2, h2, h3⟩ := leA_ok h hx hy hK
    exact cmp h2 rfl h3
  · obtain ⟨E2, h2, h3⟩ := leA_ok h hy hx hK
    exact cmp h2 rfl h3
  · obtain ⟨E2, h2, h3⟩ := leA_ok h hy hx hK
    exact cmp h2 (by simp only [intV]; congr 2; by_cases hq : x < y <;> simp [hq] <;> omega) h3
  · obtain ⟨E2, h2, h3⟩ := leA_ok h hx hy hK
    exact cmp h2 (by simp only [intV]; congr 2; by_cases hq : x ≤ y <;> simp [hq] <;> omega) h3
  · exact freshI_ok h (wrap_in k _).1 (wrap_in k _).2 rfl hK
  · exact freshI_ok h (wrap_in k _).1 (wrap_in k _).2 rfl hK
  · exact freshI_ok h (wrap_in k _).1 (wrap_in k _).2 rfl hK
  · exact freshI_ok h (wrap_in k _).1 (wrap_in k _).2 rfl hK
  · cases hK

end
end Go.Ns

/- Ns, part Se: one and two operands with unknowns: all kinds of them. -/
namespace Go.Ns
section
variable {θ : List V} {ι : List Nat} {E : Env} {P : Program}

/-! ### Bools -/
def boolA (E : Env) (v : V) (K : Env → Bool → Bool) : Bool :=
  match v with
  | .bool b => K E b
  | .flt .f32 i => match E[i]? with
    | some .bool => K (E.set i (.isB true)) true && K (E.set i (.isB false)) false
    | some (.isB b) => K E b
    | _ => false
  | _ => false

theorem boolA_ok (h : EnvOk θ E) {v v' : V} (hv : Sb θ ι v v') {K : Env → Bool → Bool} (hK : boolA E v K = true) : ∃ b E2, v' = .bool b ∧ EnvOk θ E2 ∧ K E2 b = true := by
  unfold boolA at hK
  split at hK
  · cases hv; exact ⟨_, E, rfl, h, hK⟩
  · rename_i i
    cases hv with
    | bsym _ b hb =>
    split at hK
    · rename_i hE
      simp only [Bool.and_eq_true] at hK
      have hs : EnvOk θ (E.set i (.isB b)) := h.set fun v hv => by rw [hb] at hv; cases hv; rfl
      cases b with
      | true => exact ⟨_, _, rfl, hs, hK.1⟩
      | false => exact ⟨_, _, rfl, hs, hK.2⟩
    · rename_i b2 hE
      have := h.ok i _ _ hE hb
      simp only [Dm.ok, V.bool.injEq] at this
      subst this
      exact ⟨_, E, rfl, h, hK⟩
    · cases hK
  · cases hK

/-! ### Aggregates -/
def fitA : List PK → List V → Bool
  | [], [] => true
  | .b :: ks, .bool _ :: vs => fitA ks vs
  | .b :: ks, .flt .f32 _ :: vs => fitA ks vs
  | .i k :: ks, .int k' _ :: vs => k == k' && fitA ks vs
  | .s :: ks, .str _ :: vs => fitA ks vs
  | _, _ => false

theorem fitA_ok : ∀ {ks : List PK} {vs vs' : List V}, SbL θ ι vs vs' → fitA ks vs = true → fitsV ks vs' = true := by
  intro ks
  induction ks with
  | nil =>
    intro vs vs' h hf
    cases h with
    | nil => rfl
    | cons => simp [fitA] at hf
  | cons k ks ih =>
    intro vs vs' h hf
    cases h with
    | nil => cases k <;> simp [fitA] at hf
    | cons v v' l l' h0 h1 =>
      cases k with
      | b =>
        cases h0 <;> simp only [fitA, Bool.false_eq_true] at hf <;> simp only [fitsV, fitV, Bool.true_and]
        · exact ih h1 hf
        · exact ih h1 hf
      | i k =>
        cases h0 <;> simp only [fitA, Bool.false_eq_true, Bool.and_eq_true] at hf <;> simp only [fitsV, fitV, Bool.and_eq_true]
        · exact ⟨hf.1, ih h1 hf.2⟩
        · exact ⟨hf.1, ih h1 hf.2⟩
      | s =>
        cases h0 <;> simp only [fitA, Bool.false_eq_true] at hf <;> simp only [fitsV, fitV, Bool.true_and]
        exact ih h1 hf

def eqCell (E : Env) (x y : V) (K : Env → Bool → Bool) : Bool :=
  match x, y with
  | .int _ n, .int _ m => eqA E n m K
  | .str a, .str b => K E (a.toList == b.toList)
  | x, y => boolA E x fun E a => boolA E y fun E b => K E (a == b)

def eqCells (E : Env) : List V → List V → (Env → Bool → Bool) → Bool
  | [], [], K => K E true
  | x :: xs, y :: ys, K => eqCell E x y fun E b => if b = true then eqCells E xs ys K else K E false
  | _, _, _ => false

theorem eqCell_ok (h : EnvOk θ E) {x x' y y' : V} (hx : Sb θ ι x x') (hy : Sb θ ι y y') {K : Env → Bool → Bool} (hK : eqCell E x y K = true) : ∃ E2, EnvOk θ E2 ∧ K E2 (eqV x' y') = true := by
  unfold eqCell at hK
  split at hK
  · rename_i k1 n k2 m
    have hx2 := hx
    have hy2 := hy
    cases hx <;> cases hy
    all_goals
      obtain ⟨E2, h1, h2⟩ := eqA_ok h hx2 hy2 hK
      exact ⟨E2, h1, h2⟩
  · cases hx; cases hy; exact ⟨E, h, hK⟩
  · obtain ⟨a, E2, rfl, h2, hK⟩ := boolA_ok h hx hK
    obtain ⟨b, E3, rfl, h3, hK⟩ := boolA_ok h2 hy hK
    exact ⟨E3, h3, hK⟩

theorem eqCells_ok : ∀ {E : Env} (_ : EnvOk θ E) {xs xs' ys ys' : List V}, SbL θ ι xs xs' → SbL θ ι ys ys' → ∀ {K : Env → Bool → Bool}, eqCells E xs ys K = true → ∃ E2, EnvOk θ E2 ∧ K E2 (eqVs xs' ys') = true
  | E, h, _, _, _, _, .nil, .nil, K, hK => ⟨E, h, hK⟩
  | E, h, _, _, _, _, .nil, .cons _ _ _ _ _ _, K, hK => by simp [eqCells] at hK
  | E, h, _, _, _, _, .cons _ _ _ _ _ _, .nil, K, hK => by simp [eqCells] at hK
  | E, h, _, _, _, _, .cons x x' xs xs' h0 h1, .cons y y' ys ys' g0 g1, K, hK => by
    simp only [eqCells] at hK
    obtain ⟨E2, h2, hK⟩ := eqCell_ok h h0 g0 hK
    split at hK
    · rename_i hq
      obtain ⟨E3, h3, hK⟩ := eqCells_ok h2 h1 g1 hK
      exact ⟨E3, h3, by simp only [eqVs, hq, Bool.true_and]; exact hK⟩
    · rename_i hq
      simp only [Bool.not_eq_true] at hq
      exact ⟨E2, h2, by simp only [eqVs, hq, Bool.false_and]; exact hK⟩

/-- Is it sure whether two cells are the same? -/
def sureC (E : Env) (x y : V) : Option Bool :=
  match x, y with
  | .int _ n, .int _ m => match rngI E n, rngI E m with
    | some (a, b), some (c, d) => if n = m then some true else if b < c ∨ d < a then some false else if a = b ∧ c = d then some true else none
    | _, _ => none
  | .str a, .str b => some (a.toList == b.toList)
  | .bool a, .bool b => some (a == b)
  | _, _ => none

theorem sureC_ok (h : EnvOk θ E) {x x' y y' : V} (hx : Sb θ ι x x') (hy : Sb θ ι y y') {b : Bool} (hs : sureC E x y = some b) : eqV x' y' = b := by
  have : eqCell E x y (fun _ r => r == b) = true := by
    unfold sureC at hs
    split at hs
    · simp only [eqCell, eqA]
      split at hs
      · rename_i q1 q2
        try rw [q1, q2]
        try simp only
        split at hs
        · rename_i q; rw [if_pos q]; cases hs; rfl
        · rename_i q
          rw [if_neg q]
          split at hs
          · rename_i q; rw [if_pos q]; cases hs; rfl
          · rename_i q
            rw [if_neg q]
            split at hs
            · rename_i q; rw [if_pos q]; cases hs; rfl
            · cases hs
      · cases hs
    · simp only [eqCell]; cases hs; simp
    · simp only [eqCell, boolA]; cases hs; simp
    · cases hs
  obtain ⟨E2, _, h3⟩ := eqCell_ok h hx hy this
  simpa using h3

def anyDif (E : Env) : List V → List V → Bool
  | x :: xs, y :: ys => (match sureC E x y with | some false => true | _ => anyDif E xs ys)
  | _, _ => false

def undec (E : Env) : List V → List V → Nat
  | x :: xs, y :: ys => (match sureC E x y with | none => undec E xs ys + 1 | _ => undec E xs ys)
  | _, _ => 0

theorem anyDif_ok (h : EnvOk θ E) : ∀ {xs xs' ys ys' : List V}, SbL θ ι xs xs' → SbL θ ι ys ys' → anyDif E xs ys = true → eqVs xs' ys' = false
  | _, _, _, _, .nil, _, q => by simp [anyDif] at q
  | _, _, _, _, .cons _ _ _ _ _ _, .nil, q => by simp [anyDif] at q
  | _, _, _, _, .cons x x' xs xs' h0 h1, .cons y y' ys ys' g0 g1, q => by
    simp only [anyDif] at q
    split at q
    · rename_i hs
      simp only [eqVs, sureC_ok h h0 g0 hs, Bool.false_and]
    · simp only [eqVs, anyDif_ok h h1 g1 q, Bool.and_false]

/-- Are two rows of cells the same? Where more than one cell is open, both are gone through, and nothing is learnt. -/
def eqCells2 (E : Env) (xs ys : List V) (K : Env → Bool → Bool) : Bool :=
  if anyDif E xs ys = true then K E false else if 2 ≤ undec E xs ys then K E true && K E false else eqCells E xs ys K

theorem eqCells2_ok (h : EnvOk θ E) {xs xs' ys ys' : List V} (hx : SbL θ ι xs xs') (hy : SbL θ ι ys ys') {K : Env → Bool → Bool} (hK : eqCells2 E xs ys K = true) : ∃ E2, EnvOk θ E2 ∧ K E2 (eqVs xs' ys') = true := by
  unfold eqCells2 at hK
  split at hK
  · rename_i q; exact ⟨E, h, by rw [anyDif_ok h hx hy q]; exact hK⟩
  · split at hK
    · simp only [Bool.and_eq_true] at hK
      refine ⟨E, h, ?_⟩
      cases eqVs xs' ys' with
      | true => exact hK.1
      | false => exact hK.2
    · exact eqCells_ok h hx hy hK

def eqAggA (P : Program) (E : Env) (t : TypeId) (xs ys : List V) (K : Env → Bool → Bool) : Bool :=
  match kindsT P 12 t with
  | some ks => fitA ks xs && fitA ks ys && (aggT P t == some true) && !(P.eqGuardType P.depth t) && eqCells2 E xs ys K
  | none => false

theorem eqAggA_ok (h : EnvOk θ E) {t : TypeId} {xs xs' ys ys' : List V} (hx : SbL θ ι xs xs') (hy : SbL θ ι ys ys') {K : Env → Bool → Bool} (hK : eqAggA P E t xs ys K = true) :
    ∃ b E2, eqAgg P t xs' ys' = some b ∧ EnvOk θ E2 ∧ K E2 b = true := by
  unfold eqAggA at hK
  split at hK
  · rename_i ks hks
    simp only [Bool.and_eq_true, beq_iff_eq, Bool.not_eq_true'] at hK
    obtain ⟨⟨⟨⟨h1, h2⟩, h3⟩, h4⟩, h5⟩ := hK
    obtain ⟨E2, h6, h7⟩ := eqCells2_ok h hx hy h5
    exact ⟨_, E2, by unfold eqAgg; rw [hks]; simp only; rw [if_pos ⟨fitA_ok hx h1, fitA_ok hy h2, h3, h4⟩], h6, h7⟩
  · cases hK

/-! ### Two operands -/
def eqOpA (op : BinOp) (E : Env) (b : Bool) (K : Env → V → Bool) : Bool :=
  match op with
  | .eql => K E (.bool b)
  | .neq => K E (.bool !b)
  | _ => false

theorem eqOpA_ok {op : BinOp} (h : EnvOk θ E) {b : Bool} {K : Env → V → Bool} (hK : eqOpA op E b K = true) : RA θ ι (eqOp op b) K := by
  unfold eqOpA at hK
  split at hK
  · exact RA.same h rfl (.bool _) hK
  · exact RA.same h rfl (.bool _) hK
  · cases hK

def optP (E : Env) (o : Option V) (K : Env → V → Bool) : Bool :=
  match o with
  | some v => plainV v && K E v
  | none => false

theorem optP_ok (h : EnvOk θ E) {o o' : Option V} (ho : o' = o) {K : Env → V → Bool} (hK : optP E o K = true) : RA θ ι o' K := by
  subst ho
  unfold optP at hK
  split at hK
  · simp only [Bool.and_eq_true] at hK
    exact RA.same h rfl (Sb.plain hK.1) hK.2
  · cases hK

/-! ### An index of few values -/
def splitI (k : IntKind) (i : Nat) (c : Int) (lo : Int) (E : Env) (K : Env → V → Bool) : Nat → Bool
  | 0 => true
  | n + 1 => splitI k i c lo E K n && K (E.set i (.rng (lo + n) (lo + n))) (.int k (lo + n + c))

def idxA (E : Env) (v : V) (K : Env → V → Bool) : Bool :=
  match v with
  | .int k n => match symI n with
    | none => K E v
    | some (i, c) => match E[i]? with
      | some (.inf lo hi _) => decide (hi - lo ≤ 40 ∧ -(2 ^ 90) < lo ∧ lo < 2 ^ 90 ∧ -(2 ^ 90) < c ∧ c < 2 ^ 90) && splitI k i c lo E K (hi - lo + 1).toNat
      | some (.rng lo hi) => decide (hi - lo ≤ 40 ∧ -(2 ^ 90) < lo ∧ lo < 2 ^ 90 ∧ -(2 ^ 90) < c ∧ c < 2 ^ 90) && splitI k i c lo E K (hi - lo + 1).toNat
      | _ => false
  | _ => false

theorem splitI_ok {k : IntKind} {i : Nat} {c lo : Int} {K : Env → V → Bool} : ∀ (n : Nat), splitI k i c lo E K n = true → ∀ j, j < n → K (E.set i (.rng (lo + j) (lo + j))) (.int k (lo + j + c)) = true
  | 0, _, j, hj => by omega
  | n + 1, h, j, hj => by
    simp only [splitI, Bool.and_eq_true] at h
    by_cases hq : j = n
    · rw [hq]; exact h.2
    · exact splitI_ok n h.1 j (by omega)

theorem idxA_ok (h : EnvOk θ E) {v v' : V} (hv : Sb θ ι v v') {K : Env → V → Bool} (hK : idxA E v K = true) : ∃ E2 k n, EnvOk θ E2 ∧ v' = .int k n ∧ symI n = none ∧ K E2 (.int k n) = true := by
  unfold idxA at hK
  split at hK
  · rename_i k n
    split at hK
    · rename_i s1
      cases hv with
      | sym _ _ _ _ _ _ q => rw [s1] at q; cases q
      | int => exact ⟨E, _, _, h, rfl, s1, hK⟩
    · rename_i i c s1
      cases hv with
      | int _ _ q => rw [s1] at q; cases q
      | sym _ _ i' c' k' x q hx =>
      rw [s1] at q; cases q
      have key : ∀ lo hi, (∃ k2 x2, V.int k' x = .int k2 x2 ∧ lo ≤ x2 ∧ x2 ≤ hi) → (decide (hi - lo ≤ 40 ∧ -(2 ^ 90) < lo ∧ lo < 2 ^ 90 ∧ -(2 ^ 90) < c ∧ c < 2 ^ 90) && splitI k i c lo E K (hi - lo + 1).toNat) = true →
          ∃ E2 k2 n2, EnvOk θ E2 ∧ V.int k (x + c) = .int k2 n2 ∧ symI n2 = none ∧ K E2 (.int k2 n2) = true := by
        intro lo hi hE hK
        simp only [Bool.and_eq_true, decide_eq_true_eq] at hK
        obtain ⟨hb, hK⟩ := hK
        obtain ⟨k2, x2, e, h1, h2⟩ := hE
        cases e
        have := splitI_ok _ hK (x - lo).toNat (by omega)
        have e1 : lo + ((x - lo).toNat : Int) = x := by omega
        rw [e1] at this
        exact ⟨_, _, _, h.set (fun v hv => by rw [hx] at hv; cases hv; exact ⟨k', x, rfl, Int.le_refl _, Int.le_refl _⟩), rfl, symI_small (by omega) (by omega), this⟩
      split at hK
      · rename_i lo hi f hE; exact key lo hi (h.ok i _ _ hE hx) hK
      · rename_i lo hi hE; exact key lo hi (h.ok i _ _ hE hx) hK
      · cases hK
  · cases hK

def shA (E : Env) (op : BinOp) (k : IntKind) (n m : Int) (K : Env → V → Bool) : Bool :=
  match symI n, symI m with
  | none, none => optP E (shV op k n m) K
  | some _, none => match op, rngI E n with
    | .shr, some (a, b) => decide (0 ≤ m) && freshI E k (a.fdiv (2 ^ (min m.toNat k.bits))) (b.fdiv (2 ^ (min m.toNat k.bits))) K
    | .shl, _ => decide (0 ≤ m) && freshI E k k.min k.max K
    | _, _ => false
  | none, some _ => idxA E (.int .u64 m) fun E v => match v with | .int _ m2 => optP E (shV op k n m2) K | _ => false
  | _, _ => false

theorem fdiv_mono {a b m : Int} (hm : 0 < m) (h : a ≤ b) : a.fdiv m ≤ b.fdiv m := by
  rw [Int.fdiv_eq_ediv_of_nonneg _ (by omega), Int.fdiv_eq_ediv_of_nonneg _ (by omega)]
  exact Int.ediv_le_ediv hm h

theorem shA_ok (h : EnvOk θ E) {op : BinOp} {k k' : IntKind} {n m x y : Int} (hx : Sb θ ι (.int k n) (.int k x)) (hy : Sb θ ι (.int k' m) (.int k' y)) {K : Env → V → Bool} (hK : shA E op k n m K = true) : RA θ ι (shV op k x y) K := by
  unfold shA at hK
  split at hK
  · rename_i s1 s2
    cases hx with
    | sym _ _ _ _ _ _ q => rw [s1] at q; cases q
    | int =>
    cases hy with
    | sym _ _ _ _ _ _ q => rw [s2] at q; cases q
    | int => exact optP_ok h rfl hK
  · rename_i r s1 s2
    cases hy with
    | sym _ _ _ _ _ _ q => rw [s2] at q; cases q
    | int =>
    split at hK
    · rename_i a b hr
      simp only [Bool.and_eq_true, decide_eq_true_eq] at hK
      obtain ⟨x', e1, a1, a2⟩ := rngI_ok h hx hr
      cases e1
      have hp : (0 : Int) < 2 ^ (min m.toNat k.bits) := Int.pow_pos (by decide)
      exact freshI_ok h (fdiv_mono hp a1) (fdiv_mono hp a2) (by simp only [shV]; rw [if_neg (by omega)]) hK.2
    · simp only [Bool.and_eq_true, decide_eq_true_eq] at hK
      exact freshI_ok h (wrap_in k _).1 (wrap_in k _).2 (by simp only [shV]; rw [if_neg (by omega)]) hK.2
    · cases hK
  · rename_i s1 s2
    cases hx with
    | sym _ _ _ _ _ _ q => rw [s1] at q; cases q
    | int =>
    have hy2 : Sb θ ι (.int .u64 m) (.int .u64 y) := by
      cases hy with
      | int _ _ q => exact .int _ _ q
      | sym _ _ i c k2 z q hz => exact .sym _ _ i c k2 z q hz
    obtain ⟨E2, k2, n2, g1, g2, g3, g4⟩ := idxA_ok h hy2 hK
    cases g2
    exact optP_ok g1 rfl g4
  · cases hK

def isSh (op : BinOp) : Bool := match op with | .shl | .shr => true | _ => false
theorem isSh_iff (op : BinOp) : isSh op = true ↔ (op = .shl ∨ op = .shr) := by cases op <;> simp [isSh]

def binA0 (P : Program) (E : Env) (op : BinOp) (t : TypeId) (x y : V) (K : Env → V → Bool) : Bool :=
  match x, y with
  | .int k n, .int k' m => if isSh op = true then shA E op k n m K else if k = k' then (match symI n, symI m with
      | none, none => optP E (intV op k n m) K
      | _, _ => inA E op k n m K) else false
  | .agg xs, .agg ys => eqAggA P E t xs ys fun E b => eqOpA op E b K
  | .str a, .str b => optP E (stV op a b) K
  | .nilp, .nilp => if ptrT P t = true then eqOpA op E true K else false
  | .nilp, y => if (ptrT P t && isPtr y) = true then eqOpA op E false K else false
  | x, .nilp => if (ptrT P t && isPtr x) = true then eqOpA op E false K else false
  | .nils, .nils => if slT P t = true then eqOpA op E true K else false
  | .nils, y => if (slT P t && isSlc y) = true then eqOpA op E false K else false
  | x, .nils => if (slT P t && isSlc x) = true then eqOpA op E false K else false
  | x, y => boolT P t && boolA E x fun E a => boolA E y fun E b => eqOpA op E (a == b) K

theorem isPtr_sb {v v' : V} (h : Sb θ ι v v') (hp : isPtr v = true) : isPtr v' = true := by
  cases h <;> simp [isPtr] at hp ⊢
theorem isSlc_sb {v v' : V} (h : Sb θ ι v v') (hp : isSlc v = true) : isSlc v' = true := by
  cases h <;> simp [isSlc] at hp ⊢

theorem binA0_ok (h : EnvOk θ E) {op : BinOp} {t : TypeId} {x x' y y' : V} (hx : Sb θ ι x x') (hy : Sb θ ι y y') {K : Env → V → Bool} (hK : binA0 P E op t x y K = true) : RA θ ι (binV P op t x' y') K := by
  have hint : ∀ {k n v'}, Sb θ ι (.int k n) v' → ∃ z, v' = .int k z := by
    intro k n v' h
    cases h
    · exact ⟨_, rfl⟩
    · exact ⟨_, rfl⟩
  unfold binA0 at hK
  split at hK
  · rename_i k n k' m
    obtain ⟨a, rfl⟩ := hint hx
    obtain ⟨b, rfl⟩ := hint hy
    simp only [binV]
    split at hK
    · rename_i hs
      rw [if_pos ((isSh_iff op).1 hs)]
      exact shA_ok h hx hy hK
    · rename_i hs
      rw [if_neg (fun q => hs ((isSh_iff op).2 q))]
      split at hK
      · rename_i hk
        subst hk
        rw [if_pos rfl]
        split at hK
        · rename_i s1 s2
          cases hx with
          | sym _ _ _ _ _ _ q => rw [s1] at q; cases q
          | int =>
          cases hy with
          | sym _ _ _ _ _ _ q => rw [s2] at q; cases q
          | int => exact optP_ok h rfl hK
        · exact inA_ok h hx hy hK
      · cases hK
  · cases hx with
    | agg _ xs' h1 =>
    cases hy with
    | agg _ ys' h2 =>
    obtain ⟨b, E2, q1, q2, q3⟩ := eqAggA_ok h h1 h2 hK
    simp only [binV, q1, Option.bind_some]
    exact eqOpA_ok q2 q3
  · cases hx; cases hy; exact optP_ok h rfl hK
  · cases hx; cases hy
    split at hK
    · rename_i q; simp only [binV]; rw [if_pos q]; exact eqOpA_ok h hK
    · cases hK
  · rename_i y0 _
    cases hx
    split at hK
    · rename_i q
      simp only [Bool.and_eq_true] at q
      have hp := isPtr_sb hy q.2
      have : binV P op t .nilp y' = eqOp op false := by
        cases y' <;> simp [isPtr] at hp <;> simp [binV, q.1, isPtr]
      rw [this]; exact eqOpA_ok h hK
    · cases hK
  · rename_i x0 _ _
    cases hy
    split at hK
    · rename_i q
      simp only [Bool.and_eq_true] at q
      have hp := isPtr_sb hx q.2
      have : binV P op t x' .nilp = eqOp op false := by
        cases x' <;> simp [isPtr] at hp <;> simp [binV, q.1, isPtr]
      rw [this]; exact eqOpA_ok h hK
    · cases hK
  · cases hx; cases hy
    split at hK
    · rename_i q; simp only [binV]; rw [if_pos q]; exact eqOpA_ok h hK
    · cases hK
  · rename_i y0 _ _
    cases hx
    split at hK
    · rename_i q
      simp only [Bool.and_eq_true] at q
      have hp := isSlc_sb hy q.2
      have : binV P op t .nils y' = eqOp op false := by
        cases y' <;> simp [isSlc] at hp <;> simp [binV, q.1, isSlc]
      rw [this]; exact eqOpA_ok h hK
    · cases hK
  · rename_i x0 _ _ _
    cases hy
    split at hK
    · rename_i q
      simp only [Bool.and_eq_true] at q
      have hp := isSlc_sb hx q.2
      have : binV P op t x' .nils = eqOp op false := by
        cases x' <;> simp [isSlc] at hp <;> simp [binV, q.1, isSlc]
      rw [this]; exact eqOpA_ok h hK
    · cases hK
  · simp only [Bool.and_eq_true] at hK
    obtain ⟨hb, hK⟩ := hK
    obtain ⟨a, E2, rfl, h2, hK⟩ := boolA_ok h hx hK
    obtain ⟨b, E3, rfl, h3, hK⟩ := boolA_ok h2 hy hK
    simp only [binV]
    rw [if_pos hb]
    exact eqOpA_ok h3 hK


def findD (op : BinOp) (k ky : IntKind) (n m : Int) : Env → Nat → Option Nat
  | [], _ => none
  | d :: ds, i => match d with
    | .inf _ _ (.bin op' k' ky' n' m') => if op' = op ∧ k' = k ∧ ky' = ky ∧ n' = n ∧ m' = m then some i else findD op k ky n m ds (i + 1)
    | _ => findD op k ky n m ds (i + 1)

def memoK (l : Nat) (op : BinOp) (k ky : IntKind) (n m : Int) (K : Env → V → Bool) : Env → V → Bool := fun E v =>
  match v with
  | .int k' w => if w = encI l 0 ∧ k' = k then (match E[l]? with | some (.rng lo hi) => K (E.set l (.inf lo hi (.bin op k ky n m))) (.int k' w) | _ => K E (.int k' w)) else K E (.int k' w)
  | v => K E v

def memoOp : BinOp → Bool
  | .add | .sub | .mul | .quo | .rem | .and | .or | .xor | .andNot | .shl | .shr => true
  | _ => false

/-- Two operands; what has been reckoned from the same unknowns already is the same. -/
def binA (P : Program) (E : Env) (op : BinOp) (t : TypeId) (x y : V) (K : Env → V → Bool) : Bool :=
  match x, y with
  | .int k n, .int ky m => if (memoOp op && ((symI n).isSome || (symI m).isSome)) = true then
      (match findD op k ky n m E 0 with
      | some j => decide (j < 2 ^ 90) && K E (.int k (encI j 0))
      | none => decide (E.length < 2 ^ 90) && binA0 P E op t (.int k n) (.int ky m) (memoK E.length op k ky n m K))
    else binA0 P E op t (.int k n) (.int ky m) K
  | x, y => binA0 P E op t x y K

theorem findD_ok {op : BinOp} {k ky : IntKind} {n m : Int} : ∀ (E : Env) (i j : Nat), findD op k ky n m E i = some j → i ≤ j ∧ ∃ lo hi, E[j - i]? = some (.inf lo hi (.bin op k ky n m))
  | [], i, j, h => by simp [findD] at h
  | d :: ds, i, j, h => by
    have tail : findD op k ky n m ds (i + 1) = some j → i ≤ j ∧ ∃ lo hi, (d :: ds)[j - i]? = some (.inf lo hi (.bin op k ky n m)) := by
      intro h
      obtain ⟨h1, lo, hi, h2⟩ := findD_ok ds (i + 1) j h
      refine ⟨by omega, lo, hi, ?_⟩
      have : j - i = (j - (i + 1)) + 1 := by omega
      rw [this, List.getElem?_cons_succ]
      exact h2
    simp only [findD] at h
    split at h
    · rename_i lo hi op' k' ky' n' m'
      split at h
      · rename_i q
        obtain ⟨rfl, rfl, rfl, rfl, rfl⟩ := q
        cases h
        exact ⟨Nat.le_refl _, lo, hi, by simp⟩
      · exact tail h
    · exact tail h

theorem rep_sb {k : IntKind} {n x : Int} (h : Sb θ ι (.int k n) (.int k x)) : repI θ n x := by
  cases h with
  | int _ _ q => exact .inl ⟨q, rfl⟩
  | sym _ _ i c k' z q hz => exact .inr ⟨i, c, k', z, q, hz, rfl⟩

theorem binA_ok (h : EnvOk θ E) {op : BinOp} {t : TypeId} {x x' y y' : V} (hx : Sb θ ι x x') (hy : Sb θ ι y y') {K : Env → V → Bool} (hK : binA P E op t x y K = true) : RA θ ι (binV P op t x' y') K := by
  unfold binA at hK
  split at hK
  · rename_i k n ky m
    obtain ⟨a, rfl⟩ : ∃ a, x' = .int k a := by
      cases hx
      · exact ⟨_, rfl⟩
      · exact ⟨_, rfl⟩
    obtain ⟨b, rfl⟩ : ∃ b, y' = .int ky b := by
      cases hy
      · exact ⟨_, rfl⟩
      · exact ⟨_, rfl⟩
    split at hK
    · split at hK
      · rename_i j hj
        simp only [Bool.and_eq_true, decide_eq_true_eq] at hK
        obtain ⟨_, lo, hi, hE⟩ := findD_ok E 0 j hj
        simp only [Nat.sub_zero] at hE
        obtain ⟨v, hv, _⟩ := h.look hE
        obtain ⟨a2, b2, z, k2, r1, r2, rfl, r3⟩ := h.inf j lo hi _ v hE hv
        have ea := repI.det r1 (rep_sb hx)
        have eb := repI.det r2 (rep_sb hy)
        subst ea eb
        refine RA.same h (r3 P t) ?_ hK.2
        have := Sb.sym (θ := θ) (ι := ι) k (encI j 0) j 0 k2 z (symI_enc (by decide) (by decide)) hv
        simpa using this
      · rename_i hj
        simp only [Bool.and_eq_true, decide_eq_true_eq] at hK
        obtain ⟨θ2, E2, u, u', g1, g2, g3, g4, g5⟩ := binA0_ok h hx hy hK.2
        unfold memoK at g5
        split at g5
        · rename_i k' w
          split at g5
          · rename_i hw
            obtain ⟨rfl, rfl⟩ := hw
            split at g5
            · rename_i lo hi hE
              have hs := symI_enc (i := E.length) (c := 0) (by decide) (by decide)
              cases g4 with
              | int _ _ q => rw [hs] at q; cases q
              | sym _ _ i c k3 z q hz =>
              rw [hs] at q; cases q
              refine ⟨θ2, _, _, _, g1, g2.set (fun v hv => ?_) (fun lo' hi' f v q hv => ?_), g3, ?_, g5⟩
              · have := g2.ok _ _ v hE hv
                exact this
              · cases q
                rw [hz] at hv; cases hv
                exact ⟨a, b, z, k3, (rep_sb hx).mono g1.pre, (rep_sb hy).mono g1.pre, rfl, fun P' t' => by
                  have e : binV P' op t' (.int k' a) (.int ky b) = binV P op t (.int k' a) (.int ky b) := rfl
                  rw [e, g3]; simp⟩
              · exact .sym _ _ _ _ _ _ hs hz
            · exact ⟨θ2, E2, _, u', g1, g2, g3, g4, g5⟩
          · exact ⟨θ2, E2, _, u', g1, g2, g3, g4, g5⟩
        · exact ⟨θ2, E2, _, u', g1, g2, g3, g4, g5⟩
    · exact binA0_ok h hx hy hK
  · exact binA0_ok h hx hy hK

/-! ### One operand -/
def unA (E : Env) (op : UnOp) (x : V) (K : Env → V → Bool) : Bool :=
  match op, x with
  | .neg, .int k n => match symI n, rngI E n with
    | none, _ => optP E (unV .neg (.int k n)) K
    | _, some (a, b) => if k.min ≤ -b ∧ -a ≤ k.max then freshI E k (-b) (-a) K else freshI E k k.min k.max K
    | _, none => false
  | .xor, .int k n => match symI n with
    | none => optP E (unV .xor (.int k n)) K
    | some _ => freshI E k k.min k.max K
  | .not, x => boolA E x fun E b => K E (.bool !b)
  | _, _ => false

theorem unA_ok (h : EnvOk θ E) {op : UnOp} {x x' : V} (hx : Sb θ ι x x') {K : Env → V → Bool} (hK : unA E op x K = true) : RA θ ι (unV op x') K := by
  unfold unA at hK
  split at hK
  · rename_i k n
    split at hK
    · rename_i s1
      cases hx with
      | sym _ _ _ _ _ _ q => rw [s1] at q; cases q
      | int => exact optP_ok h rfl hK
    · rename_i a b hr _
      obtain ⟨z, rfl, a1, a2⟩ := rngI_ok h hx hr
      split at hK
      · rename_i hb
        exact freshI_ok h (x := -z) (by omega) (by omega) (by simp only [unV]; rw [wrap_id (by omega) (by omega)]; simp) hK
      · exact freshI_ok h (wrap_in k (0 - z)).1 (wrap_in k (0 - z)).2 rfl hK
    · cases hK
  · rename_i k n
    split at hK
    · rename_i s1
      cases hx with
      | sym _ _ _ _ _ _ q => rw [s1] at q; cases q
      | int => exact optP_ok h rfl hK
    · have : ∃ z, x' = .int k z := by
        cases hx
        · exact ⟨_, rfl⟩
        · exact ⟨_, rfl⟩
      obtain ⟨z, rfl⟩ := this
      exact freshI_ok h (wrap_in k (BitVec.ofInt k.bits (if k.signed = true then -1 else k.max) ^^^ BitVec.ofInt k.bits z).toNat).1 (wrap_in k (BitVec.ofInt k.bits (if k.signed = true then -1 else k.max) ^^^ BitVec.ofInt k.bits z).toNat).2 rfl hK
  · obtain ⟨b, E2, rfl, h2, hK⟩ := boolA_ok h hx hK
    exact RA.same h2 rfl (.bool _) hK
  · cases hK

def cvA (P : Program) (E : Env) (s d : TypeId) (x : V) (K : Env → V → Bool) : Bool :=
  match x with
  | .int k n => match iknT P s, iknT P d with
    | some _, some k' => match rngI E n with
      | some (a, b) => if k'.min ≤ a ∧ b ≤ k'.max then K E (.int k' n) else match symI n with
        | none => optP E (cvV P s d (.int k n)) K
        | some _ => freshI E k' k'.min k'.max K
      | none => false
    | _, _ => false
  | _ => false

theorem cvA_ok (h : EnvOk θ E) {s d : TypeId} {x x' : V} (hx : Sb θ ι x x') {K : Env → V → Bool} (hK : cvA P E s d x K = true) : RA θ ι (cvV P s d x') K := by
  unfold cvA at hK
  split at hK
  · rename_i k n
    split at hK
    · rename_i k0 k' h1 h2
      split at hK
      · rename_i a b hr
        obtain ⟨z, rfl, a1, a2⟩ := rngI_ok h hx hr
        have hc : cvV P s d (.int k z) = some (.int k' (k'.wrap z)) := by simp only [cvV, h1, h2]
        split at hK
        · rename_i hb
          rw [wrap_id (by omega) (by omega)] at hc
          refine RA.same h hc ?_ hK
          cases hx with
          | int _ _ q => exact .int _ _ q
          | sym _ _ i c k2 y q hy => exact .sym _ _ _ _ _ _ q hy
        · split at hK
          · rename_i s1
            cases hx with
            | sym _ _ _ _ _ _ q => rw [s1] at q; cases q
            | int => exact optP_ok h rfl hK
          · exact freshI_ok h (wrap_in k' _).1 (wrap_in k' _).2 hc hK
      · cases hK
    · cases hK
  · cases hK

end
end Go.Ns

/- Ns, part Sf: slices, maps, indexes with unknowns. -/
namespace Go.Ns
section
variable {θ : List V} {ι : List Nat} {E : Env} {P : Program} {b b' : Nat} {H H' : Heap}

/-! ### min, max -/
def mm1 (E : Env) (mx : Bool) (x y : V) (K : Env → V → Bool) : Bool :=
  match x, y with
  | .int k n, .int k' m => match rngI E n, rngI E m with
    | some (a, c), some (d, e) =>
      if mx = true then (if e ≤ a then K E (.int k n) else if k = k' ∧ c ≤ d then K E (.int k m) else freshI E k (max a d) (max c e) K)
      else (if c ≤ d then K E (.int k n) else if k = k' ∧ e ≤ a then K E (.int k m) else freshI E k (min a d) (min c e) K)
    | _, _ => false
  | _, _ => false

theorem mm1_ok (h : EnvOk θ E) {mx : Bool} {x x' y y' : V} (hx : Sb θ ι x x') (hy : Sb θ ι y y') {K : Env → V → Bool} (hK : mm1 E mx x y K = true) : RA θ ι (mm2 mx x' y') K := by
  unfold mm1 at hK
  split at hK
  · rename_i k n k' m
    split at hK
    · rename_i a c d e h1 h2
      obtain ⟨z, rfl, a1, a2⟩ := rngI_ok h hx h1
      obtain ⟨w, rfl, b1, b2⟩ := rngI_ok h hy h2
      split at hK
      · rename_i hm
        subst hm
        have hc : mm2 true (.int k z) (.int k' w) = some (.int k (max z w)) := by
          simp only [mm2, if_true]
          congr 2
          split <;> omega
        split at hK
        · exact RA.same h (by rw [hc, show max z w = z by omega]) hx hK
        · split at hK
          · rename_i hq
            obtain ⟨rfl, hq⟩ := hq
            exact RA.same h (by rw [hc, show max z w = w by omega]) hy hK
          · exact freshI_ok h (by omega) (by omega) hc hK
      · rename_i hm
        simp only [Bool.not_eq_true] at hm
        subst hm
        have hc : mm2 false (.int k z) (.int k' w) = some (.int k (min z w)) := by
          simp only [mm2, Bool.false_eq_true, if_false]
          congr 2
          split <;> omega
        split at hK
        · exact RA.same h (by rw [hc, show min z w = z by omega]) hx hK
        · split at hK
          · rename_i hq
            obtain ⟨rfl, hq⟩ := hq
            exact RA.same h (by rw [hc, show min z w = w by omega]) hy hK
          · exact freshI_ok h (by omega) (by omega) hc hK
    · cases hK
  · cases hK

/-- Two operands of min, max (that is all that is served). -/
def mmA (E : Env) (mx : Bool) (l : List V) (K : Env → V → Bool) : Bool :=
  match l with
  | [x, y] => mm1 E mx x y K
  | _ => false

theorem mmA_ok (h : EnvOk θ E) {mx : Bool} {l l' : List V} (hl : SbL θ ι l l') {K : Env → V → Bool} (hK : mmA E mx l K = true) : RA θ ι (mmV mx l') K := by
  unfold mmA at hK
  split at hK
  · cases hl with
    | cons x x' _ _ hx hl =>
    cases hl with
    | cons y y' _ _ hy hl =>
    cases hl
    have := mm1_ok h hx hy hK
    simpa [mmV] using this
  · cases hK

/-! ### Maps -/
def keqA (P : Program) (E : Env) (kt : TypeId) (x y : V) (K : Env → Bool → Bool) : Bool :=
  match x, y with
  | .int k n, .int k' m => if k = k' ∧ iknT P kt = some k then eqA E n m K else false
  | .agg xs, .agg ys => eqAggA P E kt xs ys K
  | _, _ => false

theorem keqA_ok (h : EnvOk θ E) {kt : TypeId} {x x' y y' : V} (hx : Sb θ ι x x') (hy : Sb θ ι y y') {K : Env → Bool → Bool} (hK : keqA P E kt x y K = true) : ∃ r E2, keqV P kt x' y' = some r ∧ EnvOk θ E2 ∧ K E2 r = true := by
  unfold keqA at hK
  split at hK
  · rename_i k n k' m
    split at hK
    · rename_i hq
      have hx2 := hx
      have hy2 := hy
      cases hx <;> cases hy
      all_goals
        obtain ⟨E2, h1, h2⟩ := eqA_ok h hx2 hy2 hK
        exact ⟨_, E2, by simp only [keqV]; rw [if_pos hq]; rfl, h1, h2⟩
    · cases hK
  · cases hx with
    | agg _ xs' h1 =>
    cases hy with
    | agg _ ys' h2 => exact eqAggA_ok h h1 h2 hK
  · cases hK

def keyA (P : Program) (kt : TypeId) (x : V) : Bool :=
  match x with
  | .int k _ => iknT P kt == some k
  | .agg xs => match kindsT P 12 kt with | some ks => fitA ks xs && (aggT P kt == some true) | none => false
  | _ => false

theorem keyA_ok {kt : TypeId} {x x' : V} (hx : Sb θ ι x x') (hk : keyA P kt x = true) : keyV P kt x' = true := by
  unfold keyA at hk
  split at hk
  · cases hx
    · simpa [keyV] using hk
    · simpa [keyV] using hk
  · cases hx with
    | agg _ xs' h1 =>
    split at hk
    · rename_i ks q
      simp only [Bool.and_eq_true] at hk
      simp only [keyV, q, Bool.and_eq_true]
      exact ⟨fitA_ok h1 hk.1, hk.2⟩
    · cases hk
  · cases hk

def findA (P : Program) (kt : TypeId) (k : V) : Env → List (V × V × Nat) → Nat → (Env → Option (Nat × V) → Bool) → Bool
  | E, [], _, K => K E none
  | E, e :: es, i, K => keqA P E kt k e.1 fun E r => if r = true then K E (some (i, e.2.1)) else findA P kt k E es (i + 1) K

theorem findA_ok {kt : TypeId} {k k' : V} (hk : Sb θ ι k k') : ∀ {E : Env} (_ : EnvOk θ E) {es es' : List (V × V × Nat)} (_ : EsR θ ι es es') (i : Nat) {K : Env → Option (Nat × V) → Bool}, findA P kt k E es i K = true →
    ∃ r r' E2, findV P kt k' es' i = some r' ∧ EnvOk θ E2 ∧ K E2 r = true ∧ (match r, r' with | none, none => True | some (j, v), some (j', v') => j' = j ∧ Sb θ ι v v' | _, _ => False)
  | E, h, _, _, .nil, i, K, hK => ⟨none, none, E, rfl, h, hK, trivial⟩
  | E, h, _, _, .cons ek ek' ev ev' n es es' h1 h2 h3, i, K, hK => by
    simp only [findA] at hK
    obtain ⟨r, E2, q1, q2, q3⟩ := keqA_ok h hk h1 hK
    split at q3
    · rename_i hr
      subst hr
      exact ⟨some (i, ev), some (i, ev'), E2, by simp only [findV, q1], q2, q3, rfl, h2⟩
    · rename_i hr
      simp only [Bool.not_eq_true] at hr
      subst hr
      obtain ⟨r2, r2', E3, p1, p2, p3, p4⟩ := findA_ok hk q2 h3 (i + 1) q3
      exact ⟨r2, r2', E3, by simp only [findV, q1]; exact p1, p2, p3, p4⟩

def lkA (P : Program) (E : Env) (H : Heap) (t : TypeId) (m k : V) (ok : Bool) (K : Env → V → Bool) : Bool :=
  match mapT P t with
  | some (kt, e) => keyA P kt k && zOk P e && match zvT P e with
    | some z => match m with
      | .nilm => K E (lkOut ok z none)
      | .map id => match H.get id with
        | some (.map es _) => findA P kt k E es 0 fun E r => K E (lkOut ok z r)
        | _ => false
      | _ => false
    | none => false
  | none => false

theorem lkOut_sb {ok : Bool} {z : V} (hz : Sb θ ι z z) {r r' : Option (Nat × V)} (h : match r, r' with | none, none => True | some (j, v), some (j', v') => j' = j ∧ Sb θ ι v v' | _, _ => False) : Sb θ ι (lkOut ok z r) (lkOut ok z r') := by
  cases r <;> cases r' <;> simp only at h
  · cases ok
    · exact hz
    · exact .tup _ _ (.cons _ _ _ _ hz (.cons _ _ _ _ (.bool _) .nil))
  · cases ok
    · exact h.2
    · exact .tup _ _ (.cons _ _ _ _ h.2 (.cons _ _ _ _ (.bool _) .nil))

theorem lkA_ok (h : EnvOk θ E) (hh : SbH θ ι b b' H H') {t : TypeId} {m m' k k' : V} (hm : Sb θ ι m m') (hk : Sb θ ι k k') {ok : Bool} {K : Env → V → Bool} (hK : lkA P E H t m k ok K = true) : RA θ ι (lkV P H' t m' k' ok) K := by
  unfold lkA at hK
  split at hK
  · rename_i kt e q
    simp only [Bool.and_eq_true] at hK
    obtain ⟨⟨h1, h2⟩, hK⟩ := hK
    have h3 := keyA_ok hk h1
    split at hK
    · rename_i z hz
      have hzs := z_sb (θ := θ) (ι := ι) h2 hz
      split at hK
      · cases hm
        exact RA.same h (by simp only [lkV, q, h3, if_true, hz]) (lkOut_sb hzs (r := none) (r' := none) trivial) hK
      · cases hm with
        | map _ id hi =>
        split at hK
        · rename_i es c hg
          obtain ⟨es', g1, g2⟩ := hh.mapAt hi hg
          obtain ⟨r, r', E2, p1, p2, p3, p4⟩ := findA_ok hk h g2 0 hK
          exact RA.same p2 (by simp only [lkV, q, h3, if_true, hz, g1, p1]) (lkOut_sb hzs p4) p3
        · cases hK
      · cases hK
    · cases hK
  · cases hK

theorem SbO.map {es es' : List (V × V × Nat)} {c : Nat} (h : EsR θ ι es es') : SbO θ ι (.map es c) (.map es' c) := ⟨rfl, h⟩

def muA (P : Program) (b : Nat) (E : Env) (H : Heap) (t : TypeId) (m k x : V) (K : Env → V → Heap → Bool) : Bool :=
  match mapT P t, m with
  | some (kt, _), .map id => match H.get id with
    | some (.map es clock) => keyA P kt k && decide (b ≤ id) && findA P kt k E es 0 fun E r => match r with
      | some (i, _) => K E (.tup []) (H.set id (.map (es.modify i fun e => (k, x, e.2.2)) clock))
      | none => K E (.tup []) (H.set id (.map (es ++ [(k, x, clock)]) (clock + 1)))
    | _ => false
  | _, _ => false

theorem EsR.modify {es es' : List (V × V × Nat)} (h : EsR θ ι es es') {k k' x x' : V} (hk : Sb θ ι k k') (hx : Sb θ ι x x') : ∀ i, EsR θ ι (es.modify i fun e => (k, x, e.2.2)) (es'.modify i fun e => (k', x', e.2.2)) := by
  induction h with
  | nil => intro i; cases i <;> simpa using EsR.nil
  | cons a a' c c' n es es' h1 h2 h3 ih =>
    intro i
    cases i with
    | zero => simpa using EsR.cons _ _ _ _ _ _ _ hk hx h3
    | succ i => simpa using EsR.cons _ _ _ _ _ _ _ h1 h2 (ih i)

theorem EsR.snoc {es es' : List (V × V × Nat)} (h : EsR θ ι es es') {k k' x x' : V} (hk : Sb θ ι k k') (hx : Sb θ ι x x') (n : Nat) : EsR θ ι (es ++ [(k, x, n)]) (es' ++ [(k', x', n)]) := by
  induction h with
  | nil => exact .cons _ _ _ _ _ _ _ hk hx .nil
  | cons a a' c c' n es es' h1 h2 h3 ih => exact .cons _ _ _ _ _ _ _ h1 h2 ih

theorem EsR.erase {es es' : List (V × V × Nat)} (h : EsR θ ι es es') : ∀ i, EsR θ ι (es.eraseIdx i) (es'.eraseIdx i) := by
  induction h with
  | nil => intro i; cases i <;> simpa using EsR.nil
  | cons a a' c c' n es es' h1 h2 h3 ih =>
    intro i
    cases i with
    | zero => simpa using h3
    | succ i => simpa using EsR.cons _ _ _ _ _ _ _ h1 h2 (ih i)

/-- What is reckoned with the heap. -/
def RH (θ : List V) (ι : List Nat) (b b' : Nat) (conc : Option Heap) (K : Env → V → Heap → Bool) : Prop :=
  ∃ E2 H2 H2', EnvOk θ E2 ∧ conc = some H2' ∧ SbH θ ι b b' H2 H2' ∧ K E2 (.tup []) H2 = true

theorem muA_ok (h : EnvOk θ E) (hh : SbH θ ι b b' H H') {t : TypeId} {m m' k k' x x' : V} (hm : Sb θ ι m m') (hk : Sb θ ι k k') (hx : Sb θ ι x x') {K : Env → V → Heap → Bool} (hK : muA P b E H t m k x K = true) : RH θ ι b b' (muV P b' H' t m' k' x') K := by
  unfold muA at hK
  split at hK
  · rename_i kt e id q
    cases hm with
    | map _ id' hi =>
    split at hK
    · rename_i es c hg
      simp only [Bool.and_eq_true, decide_eq_true_eq] at hK
      obtain ⟨⟨h1, h2⟩, hK⟩ := hK
      have h3 := keyA_ok hk h1
      obtain ⟨es', g1, g2⟩ := hh.mapAt hi hg
      obtain ⟨r, r', E2, p1, p2, p3, p4⟩ := findA_ok hk h g2 0 hK
      have hb := hh.base _ _ hi h2
      cases r with
      | none =>
        cases r' with
        | some _ => exact p4.elim
        | none => exact ⟨E2, _, _, p2, by simp only [muV, q, g1, h3, p1]; rw [if_pos ⟨trivial, hb⟩], hh.set hi (SbO.map (g2.snoc hk hx _)), p3⟩
      | some r =>
        cases r' with
        | none => exact p4.elim
        | some r' =>
          obtain ⟨i, v⟩ := r
          obtain ⟨i', v'⟩ := r'
          obtain ⟨rfl, _⟩ := p4
          exact ⟨E2, _, _, p2, by simp only [muV, q, g1, h3, p1]; rw [if_pos ⟨trivial, hb⟩], hh.set hi (SbO.map (g2.modify hk hx _)), p3⟩
    · cases hK
  · cases hK

def dlA (P : Program) (b : Nat) (E : Env) (H : Heap) (t : TypeId) (m k : V) (K : Env → V → Heap → Bool) : Bool :=
  match mapT P t, m with
  | some (kt, _), .map id => match H.get id with
    | some (.map es clock) => keyA P kt k && decide (b ≤ id) && findA P kt k E es 0 fun E r => match r with
      | some (i, _) => K E (.tup []) (H.set id (.map (es.eraseIdx i) clock))
      | none => K E (.tup []) H
    | _ => false
  | _, _ => false

theorem dlA_ok (h : EnvOk θ E) (hh : SbH θ ι b b' H H') {t : TypeId} {m m' k k' : V} (hm : Sb θ ι m m') (hk : Sb θ ι k k') {K : Env → V → Heap → Bool} (hK : dlA P b E H t m k K = true) : RH θ ι b b' (dlV P b' H' t m' k') K := by
  unfold dlA at hK
  split at hK
  · rename_i kt e id q
    cases hm with
    | map _ id' hi =>
    split at hK
    · rename_i es c hg
      simp only [Bool.and_eq_true, decide_eq_true_eq] at hK
      obtain ⟨⟨h1, h2⟩, hK⟩ := hK
      have h3 := keyA_ok hk h1
      obtain ⟨es', g1, g2⟩ := hh.mapAt hi hg
      obtain ⟨r, r', E2, p1, p2, p3, p4⟩ := findA_ok hk h g2 0 hK
      have hb := hh.base _ _ hi h2
      cases r with
      | none =>
        cases r' with
        | some _ => exact p4.elim
        | none => exact ⟨E2, _, _, p2, by simp only [dlV, q, g1, h3, p1]; rw [if_pos ⟨trivial, hb⟩], hh, p3⟩
      | some r =>
        cases r' with
        | none => exact p4.elim
        | some r' =>
          obtain ⟨i, v⟩ := r
          obtain ⟨i', v'⟩ := r'
          obtain ⟨rfl, _⟩ := p4
          exact ⟨E2, _, _, p2, by simp only [dlV, q, g1, h3, p1]; rw [if_pos ⟨trivial, hb⟩], hh.set hi (SbO.map (g2.erase _)), p3⟩
    · cases hK
  · cases hK

end
end Go.Ns

/- Ns, part Sg: parts of slices, iterators with unknowns. -/
namespace Go.Ns
section
variable {θ : List V} {ι : List Nat} {E : Env} {P : Program} {b b' : Nat} {H H' : Heap}

theorem sl_sb (h : SbH θ ι b b' H H') {t : TypeId} {x x' u : V} {lo hi mx : Option V} (hx : Sb θ ι x x') (hu : slV P H t x lo hi mx = some u) : ∃ u', slV P H' t x' lo hi mx = some u' ∧ Sb θ ι u u' := by
  unfold slV at hu
  split at hu
  · cases hx with
    | ptr _ id _ _ hi' =>
    split at hu
    · rename_i n s g g' cs q1 q2
      obtain ⟨cs', h1, h2⟩ := h.cells hi' q2
      split at hu
      · rename_i l hh q3 q4
        split at hu
        · rename_i hq
          have hq' : g' = _ ∧ l ≤ hh ∧ hh ≤ n ∧ _ + n * s ≤ cs'.length := ⟨hq.1, hq.2.1, hq.2.2.1, by rw [h2.length]; exact hq.2.2.2⟩
          split at hu
          · rename_i hl
            cases hu
            exact ⟨_, by simp only [slV, q1, h1, q3, q4]; rw [if_pos hq', if_pos hl], .fsl _ _ _ _ .nil⟩
          · rename_i hl
            cases hu
            exact ⟨_, by simp only [slV, q1, h1, q3, q4]; rw [if_pos hq', if_neg hl], .hsl _ _ _ _ _ _ _ _ hi'⟩
        · cases hu
      · cases hu
    · cases hu
  · rename_i cs
    cases hx with
    | fptr _ cs' h2 =>
    split at hu
    · rename_i n s g q1
      split at hu
      · rename_i l hh q3 q4
        split at hu
        · rename_i hq
          have hq' : l ≤ hh ∧ hh ≤ n ∧ n * s ≤ cs'.length := ⟨hq.1, hq.2.1, by rw [h2.length]; exact hq.2.2⟩
          split at hu
          · rename_i hl
            cases hu
            exact ⟨_, by simp only [slV, q1, q3, q4]; rw [if_pos hq', if_pos hl], .fsl _ _ _ _ .nil⟩
          · rename_i hl
            cases hu
            exact ⟨_, by simp only [slV, q1, q3, q4]; rw [if_pos hq', if_neg hl], .fsl _ _ _ _ ((h2.drop _).take _)⟩
        · cases hu
      · cases hu
    · cases hu
  · cases hx with
    | hsl _ id _ _ _ _ _ _ hi' =>
    split at hu
    · rename_i e s by_ q1
      split at hu
      · rename_i l hh q3 q4
        split at hu
        · rename_i hq
          split at hu
          · rename_i hl
            cases hu
            exact ⟨_, by simp only [slV, q1, q3, q4]; rw [if_pos hq, if_pos hl], .hsl _ _ _ _ _ _ _ _ hi'⟩
          · rename_i hl
            cases hu
            exact ⟨_, by simp only [slV, q1, q3, q4]; rw [if_pos hq, if_neg hl], .fsl _ _ _ _ .nil⟩
        · cases hu
      · rename_i l hh k m q3 q4
        split at hu
        · rename_i hq
          split at hu
          · rename_i hl
            cases hu
            exact ⟨_, by simp only [slV, q1, q3, q4]; rw [if_pos hq, if_pos hl], .fsl _ _ _ _ .nil⟩
          · rename_i hl
            cases hu
            exact ⟨_, by simp only [slV, q1, q3, q4]; rw [if_pos hq, if_neg hl], .hsl _ _ _ _ _ _ _ _ hi'⟩
        · cases hu
      · cases hu
    · cases hu
  · cases hx with
    | fsl _ _ _ cs' h2 =>
    split at hu
    · rename_i e s by_ q1
      split at hu
      · rename_i l hh q3 q4
        split at hu
        · rename_i hq
          have hq' : l ≤ hh ∧ hh ≤ _ ∧ _ * s ≤ cs'.length := ⟨hq.1, hq.2.1, by rw [h2.length]; exact hq.2.2⟩
          split at hu
          · rename_i hl
            cases hu
            exact ⟨_, by simp only [slV, q1, q3, q4]; rw [if_pos hq', if_pos hl], .fsl _ _ _ _ .nil⟩
          · rename_i hl
            cases hu
            exact ⟨_, by simp only [slV, q1, q3, q4]; rw [if_pos hq', if_neg hl], .fsl _ _ _ _ ((h2.drop _).take _)⟩
        · cases hu
      · rename_i l hh k m q3 q4
        split at hu
        · rename_i hq
          have hq' : l ≤ hh ∧ hi.isSome = true ∧ m = hh ∧ hh ≤ _ ∧ _ * s ≤ cs'.length := ⟨hq.1, hq.2.1, hq.2.2.1, hq.2.2.2.1, by rw [h2.length]; exact hq.2.2.2.2⟩
          split at hu
          · rename_i hl
            cases hu
            exact ⟨_, by simp only [slV, q1, q3, q4]; rw [if_pos hq', if_pos hl], .fsl _ _ _ _ .nil⟩
          · rename_i hl
            cases hu
            exact ⟨_, by simp only [slV, q1, q3, q4]; rw [if_pos hq', if_neg hl], .fsl _ _ _ _ ((h2.drop _).take _)⟩
        · cases hu
      · cases hu
    · cases hu
  · cases hx
    refine ⟨u, by unfold slV; exact hu, ?_⟩
    split at hu
    · split at hu
      · split at hu
        · cases hu
        · cases hu; exact .nils
      · cases hu
    · cases hu
  · cases hx
    refine ⟨u, by unfold slV; exact hu, ?_⟩
    split at hu
    · split at hu
      · split at hu
        · cases hu; exact .str _
        · cases hu
      · cases hu
    · cases hu
  · cases hu

/-! ### Iterators -/
theorem SbO.iterS {i id x y : Nat} {z : Array Nat} (h : ι[i]? = some id) : SbO θ ι (.iter (some i) x z y) (.iter (some id) x z y) := ⟨rfl, rfl, rfl, h⟩
def MidS (ι : List Nat) : Option Nat → Option Nat → Prop
  | none, none => True
  | some i, some id => ι[i]? = some id
  | _, _ => False

theorem rg_sb (h : SbH θ ι b b' H H') {t : TypeId} {m m' u : V} (hm : Sb θ ι m m') {H2 : Heap} (hu : rgV P b H t m = some (u, H2)) : ∃ u' H2', rgV P b' H' t m' = some (u', H2') ∧ EffS θ ι b b' H2 H2' u u' := by
  unfold rgV at hu
  split at hu
  · rename_i kt q
    split at hu
    · split at hu
      · cases hm
        cases hu
        exact ⟨_, _, by simp only [rgV, q]; rw [if_pos h.low], ι ++ [H'.n], List.prefix_append _ _, h.new' (show SbO θ ι (.iter none 0 #[] 0) (.iter none 0 #[] 0) from ⟨rfl, rfl, rfl, trivial⟩), .ptr _ _ _ _ (by rw [h.n]; simp)⟩
      · cases hm with
        | map i id hi =>
        split at hu
        · rename_i es c hg
          obtain ⟨es', g1, g2⟩ := h.mapAt hi hg
          cases hu
          exact ⟨_, _, by simp only [rgV, q, g1]; rw [if_pos h.low], ι ++ [H'.n], List.prefix_append _ _, h.new' (SbO.iterS hi), .ptr _ _ _ _ (by rw [h.n]; simp)⟩
        · cases hu
      · cases hu
    · cases hu
  · cases hu

theorem EsR.filter {es es' : List (V × V × Nat)} (h : EsR θ ι es es') (p : Nat → Bool) : EsR θ ι (es.filter fun e => p e.2.2) (es'.filter fun e => p e.2.2) := by
  induction h with
  | nil => exact .nil
  | cons k k' v v' n es es' h1 h2 _ ih =>
    simp only [List.filter_cons]
    split
    · exact .cons _ _ _ _ _ _ _ h1 h2 ih
    · exact ih

theorem EsR.isEmpty {es es' : List (V × V × Nat)} (h : EsR θ ι es es') : es'.isEmpty = es.isEmpty := by cases h <;> rfl
theorem EsR.all {es es' : List (V × V × Nat)} (h : EsR θ ι es es') (p : Nat → Bool) : (es'.all fun e => p e.2.2) = (es.all fun e => p e.2.2) := by
  induction h with
  | nil => rfl
  | cons k k' v v' n es es' h1 h2 _ ih => simp only [List.all_cons, ih]
theorem EsR.mem {es es' : List (V × V × Nat)} (h : EsR θ ι es es') {e' : V × V × Nat} (he : e' ∈ es') : ∃ e ∈ es, Sb θ ι e.1 e'.1 ∧ Sb θ ι e.2.1 e'.2.1 ∧ e'.2.2 = e.2.2 := by
  induction h with
  | nil => cases he
  | cons k k' v v' n es es' h1 h2 _ ih =>
    rcases List.mem_cons.1 he with q | q
    · subst q; exact ⟨_, List.mem_cons_self, h1, h2, rfl⟩
    · obtain ⟨e, q1, q2⟩ := ih q; exact ⟨e, List.mem_cons_of_mem _ q1, q2⟩
theorem EsR.find {es es' : List (V × V × Nat)} (h : EsR θ ι es es') (p : Nat → Bool) {e : V × V × Nat} (he : es.find? (fun e => p e.2.2) = some e) : ∃ e', es'.find? (fun e => p e.2.2) = some e' ∧ Sb θ ι e.1 e'.1 ∧ Sb θ ι e.2.1 e'.2.1 := by
  induction h with
  | nil => cases he
  | cons k k' v v' n es es' h1 h2 _ ih =>
    simp only [List.find?_cons] at he ⊢
    split at he
    · rename_i hp; cases he; exact ⟨(k', v', n), by first | rfl | simp [hp], h1, h2⟩
    · rename_i hp
      obtain ⟨e', q1, q2⟩ := ih he
      exact ⟨e', by first | exact q1 | simp [hp, q1], q2⟩

theorem SbH.iterAt (h : SbH θ ι b b' H H') {i id x y : Nat} {m : Option Nat} {z : Array Nat} (hi : ι[i]? = some id) (hg : H.get i = some (.iter m x z y)) :
    ∃ m', H'.get id = some (.iter m' x z y) ∧ MidS ι m m' := by
  obtain ⟨o', h1, h2⟩ := h.get i id _ hi hg
  cases o' <;> simp only [SbO] at h2
  obtain ⟨rfl, rfl, rfl, h2⟩ := h2
  refine ⟨_, h1, ?_⟩
  rename_i m' _ _ _
  cases m <;> cases m' <;> first | exact h2 | trivial | exact h2.elim

theorem en_sb (h : SbH θ ι b b' H H') {it it' u : V} (hi : Sb θ ι it it') (hu : enV H it = some u) : ∃ u', enV H' it' = some u' ∧ Sb θ ι u u' := by
  unfold enV at hu
  split at hu
  · rename_i i
    cases hi with
    | ptr _ id _ _ hi =>
    split at hu
    · rename_i mid since seen stepped hg
      obtain ⟨m', g1, g2⟩ := h.iterAt hi hg
      cases m' with
      | none => exact absurd g2 (by simp [MidS])
      | some mid' =>
      split at hu
      · rename_i stamp es c q1 q2
        obtain ⟨es', p1, p2⟩ := h.mapAt g2 q2
        split at hu
        · rename_i hc
          simp only [Option.map_eq_some_iff] at hu
          obtain ⟨e, he, rfl⟩ := hu
          obtain ⟨e', r1, r2, r3⟩ := p2.find (fun n => n == stamp) he
          exact ⟨.tup [e'.1, e'.2.1], by simp only [enV, g1, q1, p1]; rw [if_pos hc, r1]; rfl, .tup _ _ (.cons _ _ _ _ r2 (.cons _ _ _ _ r3 .nil))⟩
        · cases hu
      · cases hu
    · cases hu
  · cases hu

theorem cands_sb {es es' : List (V × V × Nat)} (h : EsR θ ι es es') (since : Nat) (seen : Array Nat) {c' : Option (V × V × Nat)} (hc : c' ∈ nxCands es' since seen) :
    ∃ c ∈ nxCands es since seen, match c, c' with | none, none => True | some e, some e' => Sb θ ι e.1 e'.1 ∧ Sb θ ι e.2.1 e'.2.1 ∧ e'.2.2 = e.2.2 | _, _ => False := by
  have h1 := h.filter fun n => !seen.contains n
  have h2 := h1.filter fun n => decide (n < since)
  have h3 := h1.filter fun n => decide (n ≥ since)
  unfold nxCands at hc ⊢
  simp only [List.mem_append, List.mem_map] at hc ⊢
  rcases hc with q | ⟨e', q, rfl⟩
  · rw [h2.isEmpty] at q
    split at q
    · rename_i hq
      simp only [List.mem_singleton] at q
      subst q
      exact ⟨none, .inl (by rw [if_pos hq]; simp), trivial⟩
    · cases q
  · rcases q with q | q
    · obtain ⟨e, q1, q2⟩ := h2.mem q
      exact ⟨some e, .inr ⟨e, .inl q1, rfl⟩, q2⟩
    · obtain ⟨e, q1, q2⟩ := h3.mem q
      exact ⟨some e, .inr ⟨e, .inr q1, rfl⟩, q2⟩

theorem nx_sb (h : SbH θ ι b b' H H') {it it' : V} (hi : Sb θ ι it it') {outs : List (V × Heap)} (hu : nxV b H it = some outs) :
    ∃ outs', nxV b' H' it' = some outs' ∧ ∀ o' ∈ outs', ∃ o ∈ outs, Sb θ ι o.1 o'.1 ∧ SbH θ ι b b' o.2 o'.2 := by
  unfold nxV at hu
  split at hu
  · rename_i i
    cases hi with
    | ptr _ id _ _ hi =>
    split at hu
    · rename_i x y z hg
      obtain ⟨m', g1, g2⟩ := h.iterAt hi hg
      cases m' with
      | some _ => exact absurd g2 (by simp [MidS])
      | none =>
      cases hu
      refine ⟨[(.tup [.bool false], H')], by simp only [nxV, g1], fun o' ho => ?_⟩
      simp only [List.mem_singleton] at ho
      subst ho
      exact ⟨_, List.mem_singleton.2 rfl, .tup _ _ (.cons _ _ _ _ (.bool _) .nil), h⟩
    · rename_i mid since seen last hg
      obtain ⟨m', g1, g2⟩ := h.iterAt hi hg
      cases m' with
      | none => exact absurd g2 (by simp [MidS])
      | some mid' =>
      split at hu
      · rename_i es c q2
        obtain ⟨es', p1, p2⟩ := h.mapAt g2 q2
        split at hu
        · cases hu
        · rename_i hn
          cases hu
          have hn' : ¬ ((!seen.isEmpty && !es'.isEmpty && es'.all fun e => decide (e.2.2 ≥ last)) = true ∨ id < b') := by
            rw [p2.isEmpty, p2.all fun n => decide (n ≥ last)]
            intro q
            rcases q with q | q
            · exact hn (.inl q)
            · have := h.base i id hi (by
                rcases Nat.lt_or_ge i b with q' | q'
                · exact absurd (.inr q') hn
                · exact q')
              omega
          refine ⟨_, by simp only [nxV, g1, p1]; rw [if_neg hn'], fun o' ho => ?_⟩
          obtain ⟨c', hc', rfl⟩ := List.mem_map.1 ho
          obtain ⟨c0, hc0, hcc⟩ := cands_sb p2 since seen hc'
          refine ⟨_, List.mem_map.2 ⟨c0, hc0, rfl⟩, ?_⟩
          cases c0 <;> cases c' <;> simp only at hcc
          · exact ⟨.tup _ _ (.cons _ _ _ _ (.bool _) .nil), h⟩
          · obtain ⟨r1, r2, r3⟩ := hcc
            simp only [nxOut, r3]
            exact ⟨.tup _ _ (.cons _ _ _ _ (.bool _) (.cons _ _ _ _ r1 (.cons _ _ _ _ r2 .nil))), h.set hi (show SbO θ ι (.iter (some mid) since _ c) (.iter (some mid') since _ c) from ⟨rfl, rfl, rfl, g2⟩)⟩
      · cases hu
    · cases hu
  · cases hu

end
end Go.Ns

