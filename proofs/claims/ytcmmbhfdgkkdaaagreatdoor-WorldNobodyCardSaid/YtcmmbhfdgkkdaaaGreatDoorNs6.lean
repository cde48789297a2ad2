/- A logic of the model's calls, part 6. -/
import Derived.Test.YtcmmbhfdgkkdaaaGreatDoorNs5
/- Ns, part Wc: contracts: a function that only computes with integers and bools, taken by what its arguments may be and what its result may be. -/
namespace Go.Ns

mutual
/-- Only integers, bools, and what is built of them. -/
def ibV : V → Bool
  | .bool _ | .int .. | .flt .f32 _ => true
  | .agg cs => ibVs cs
  | .tup cs => ibVs cs
  | _ => false
def ibVs : List V → Bool
  | [] => true
  | v :: vs => ibV v && ibVs vs
end

mutual
/-- The same, its unknowns further on. -/
def shV' (d : Nat) : V → V
  | .int k n => match symI n with | some (i, c) => .int k (encI (i + d) c) | none => .int k n
  | .flt .f32 i => .flt .f32 (i + d)
  | .agg cs => .agg (shVs d cs)
  | .tup cs => .tup (shVs d cs)
  | v => v
def shVs (d : Nat) : List V → List V
  | [] => []
  | v :: vs => shV' d v :: shVs d vs
end

mutual
/-- Its sums are small. -/
def smV : V → Bool
  | .int _ n => match symI n with | some (_, c) => decide (-(2 ^ 90) < c ∧ c < 2 ^ 90) | none => true
  | .agg cs => smVs cs
  | .tup cs => smVs cs
  | _ => true
def smVs : List V → Bool
  | [] => true
  | v :: vs => smV v && smVs vs
end

def ibE (E : Env) : Bool := E.all fun | .rng _ _ => true | .bool => true | _ => false

structure Ctr where
  Ep : Env
  ap : List V
  Er : Env
  rp : V

def fpA (Ep : Env) (ap args : List V) : List V := dfltUs Ep (fpVs (Ep.map fun _ => none, []) ap args).1

def ctrG (c : Ctr) : GivA := fun E _ args H K =>
  let u := fpA c.Ep c.ap args
  u.all uPlain && domsOk E c.Ep u && matVs u [] c.ap args && K (E ++ c.Er) (.ret (shV' E.length c.rp)) H

def ctrK (c : Ctr) : Env → Res → Heap → Bool
  | E, .ret v, _ =>
    let u := fpA c.Er [c.rp] [v]
    u.all uPlain && domsOk E c.Er u && matV u [] c.rp v
  | _, _, _ => false

section
variable {θ : List V} {ι : List Nat} {E : Env} {P : Program}

mutual
theorem ib_below : ∀ {v w : V} (n : Nat), ibV v = true → Sb θ ι v w → belowV n w = true
  | .bool _, _, _, _, .bool _ => rfl
  | .int _ _, _, _, _, .int _ _ _ => rfl
  | .int _ _, _, _, _, .sym _ _ _ _ _ _ _ _ => rfl
  | .flt .f32 _, _, _, _, .bsym _ _ _ => rfl
  | .agg _, _, n, h, .agg _ _ q => by simp only [belowV]; exact ibs_below n (by simpa [ibV] using h) q
  | .tup _, _, n, h, .tup _ _ q => by simp only [belowV]; exact ibs_below n (by simpa [ibV] using h) q
theorem ibs_below : ∀ {vs ws : List V} (n : Nat), ibVs vs = true → SbL θ ι vs ws → belowVs n ws = true
  | [], _, _, _, .nil => rfl
  | _ :: _, _, n, h, .cons _ _ _ _ q1 q2 => by
    have h' := (by simpa [ibVs] using h : ibV _ = true ∧ ibVs _ = true)
    simp only [belowVs, ib_below n h'.1 q1, ibs_below n h'.2 q2, Bool.and_self]
end

theorem get_shift {θr : List V} {i : Nat} {v : V} (h : θr[i]? = some v) : (θ ++ θr)[i + θ.length]? = some v := by
  rw [List.getElem?_append_right (by omega)]
  simpa using h

mutual
theorem sh_sb {θr : List V} : ∀ {v w : V}, ibV v = true → smV v = true → Sb θr [] v w → Sb (θ ++ θr) ι (shV' θ.length v) w
  | .bool _, _, _, _, .bool _ => .bool _
  | .int k n, _, _, _, .int _ _ q => by simp only [shV', q]; exact .int _ _ q
  | .int k n, _, _, hm, .sym _ _ i c k' x q1 q2 => by
    simp only [smV, q1, decide_eq_true_eq] at hm
    simp only [shV', q1]
    refine .sym _ _ (i + θ.length) c k' x (symI_enc (by omega) (by omega)) (get_shift q2)
  | .flt .f32 i, _, _, _, .bsym _ _ q => by simp only [shV']; exact .bsym _ _ (get_shift q)
  | .agg _, _, h, hm, .agg _ _ q => by simp only [shV']; exact .agg _ _ (shs_sb (by simpa [ibV] using h) (by simpa [smV] using hm) q)
  | .tup _, _, h, hm, .tup _ _ q => by simp only [shV']; exact .tup _ _ (shs_sb (by simpa [ibV] using h) (by simpa [smV] using hm) q)
theorem shs_sb {θr : List V} : ∀ {vs ws : List V}, ibVs vs = true → smVs vs = true → SbL θr [] vs ws → SbL (θ ++ θr) ι (shVs θ.length vs) ws
  | [], _, _, _, .nil => .nil
  | _ :: _, _, h, hm, .cons _ _ _ _ q1 q2 => by
    have h' := (by simpa [ibVs] using h : ibV _ = true ∧ ibVs _ = true)
    have m' := (by simpa [smVs] using hm : smV _ = true ∧ smVs _ = true)
    simp only [shVs]
    exact .cons _ _ _ _ (sh_sb h'.1 m'.1 q1) (shs_sb h'.2 m'.2 q2)
end

theorem ibE_low {θr : List V} {Er : Env} (he : EnvOk θr Er) (hE : ibE Er = true) (v : V) (hv : v ∈ θr) (n : Nat) : belowV n v = true := by
  obtain ⟨i, hi, hq⟩ := List.mem_iff_getElem.1 hv
  have hi2 : i < Er.length := by rw [← he.len]; exact hi
  have hg : θr[i]? = some v := by rw [List.getElem?_eq_getElem hi, hq]
  have ok := he.ok i Er[i] v (List.getElem?_eq_getElem hi2) hg
  have hb := List.all_eq_true.1 hE Er[i] (List.getElem_mem hi2)
  generalize Er[i] = d at ok hb
  cases d <;> simp at hb <;> simp only [Dm.ok] at ok
  · obtain ⟨k, x, rfl, _⟩ := ok; rfl
  · obtain ⟨b, rfl⟩ := ok; rfl

theorem uPlain_low {u θp : List V} {n : Nat} (hp : u.all uPlain = true) (hlow : ∀ (i : Nat) (v : V), θ[i]? = some v → belowV n v = true) (hu : SbL θ ι u θp) (i : Nat) (v : V) (hv : θp[i]? = some v) : belowV n v = true := by
  have hl := hu.length
  have hlt := (List.getElem?_eq_some_iff.1 hv).1
  have hi2 : i < u.length := by rw [← hl]; exact hlt
  obtain ⟨v2, a1, a2⟩ := hu.get i (List.getElem?_eq_getElem hi2)
  rw [hv] at a1; cases a1
  have hpl := List.all_eq_true.1 hp u[i] (List.getElem_mem hi2)
  generalize u[i] = w at a2 hpl
  cases a2 <;> first | rfl | (simp [uPlain] at hpl; done) | skip
  rename_i j h1 h2
  exact hlow j _ h1

theorem ctr_ok (hm : P.follows .mixedOrders = true) {call : CallA} (hc : CallOkA P call) {f : FuncId} {fn : Func} {code : Code} {n : Nat} {c : Ctr} (hf : P.funcs[f]? = some fn) (hb : fn.body = some code) (hn : c.ap.length ≤ fn.ntmps)
    (hr : (ibV c.rp && smV c.rp && ibE c.Er) = true) (h : runA P call n 0 fn code c.Ep c.ap E0 (ctrK c) = true) : GivOk P f (ctrG c) := by
  intro E b args H K hk θ ι b' args' H' he hh ha
  simp only [Bool.and_eq_true] at hr
  obtain ⟨⟨r1, r2⟩, r3⟩ := hr
  simp only [ctrG, Bool.and_eq_true] at hk
  generalize fpA c.Ep c.ap args = u at hk
  obtain ⟨⟨⟨k1, k2⟩, k3⟩, k4⟩ := hk
  obtain ⟨θp, q1, q2⟩ := domsOk_ok (ι := ι) he k2
  have inst : Inst θ θp ι [] u [] := ⟨q1, fun i j hi => by simp at hi⟩
  have ha2 := matVs_ok inst k3 ha
  have low : ∀ (i : Nat) (v : V), θp[i]? = some v → belowV H'.n v = true := uPlain_low k1 hh.opq q1
  have hh0 : SbH θp [] 0 H'.n E0 H' := ⟨rfl, fun i j id q => by simp at q, fun i id q => by simp at q, fun i id o q => by simp at q, fun i id q => by simp at q, Nat.le_refl _, low⟩
  have := runA_ok hm hc hf hb hn q2 hh0 ha2 h
  refine ncall_pure (this.mono ?_)
  rintro r' H2' ⟨θ2, E2, ι2, r, H2, g1, g2, g3, g4, g5, g6⟩
  cases r with
  | pan => simp [ctrK] at g6
  | ret v =>
    simp only [ctrK, Bool.and_eq_true] at g6
    generalize fpA c.Er [c.rp] [v] = u2 at g6
    obtain ⟨⟨m1, m2⟩, m3⟩ := g6
    cases r' with
    | pan => simp [ResS] at g5
    | ret w =>
      simp only [ResS] at g5
      obtain ⟨θr, p1, p2⟩ := domsOk_ok (ι := ι2) g3 m2
      have inst2 : Inst θ2 θr ι2 [] u2 [] := ⟨p1, fun i j hi => by simp at hi⟩
      have hw := matV_ok inst2 m3 g5
      have hb2 := ib_below H'.n r1 hw
      have hgrow : Grow θ (θ ++ θr) := ⟨θr, rfl, fun v hv n => ibE_low p2 r3 v hv n⟩
      refine ⟨.ret w, by simp only [frzR, frz, hb2, if_true, Option.map_some], θ ++ θr, E ++ c.Er, ι, .ret _, H, hgrow, List.prefix_refl _, ?_, hh.grow hgrow, ?_, k4⟩
      · refine ⟨by simp [he.len, p2.len], fun i d x h1 h2 => ?_, fun i lo hi fc x h1 h2 => ?_⟩
        · by_cases hi : i < E.length
          · rw [List.getElem?_append_left hi] at h1
            rw [List.getElem?_append_left (by rw [he.len]; exact hi)] at h2
            exact he.ok i d x h1 h2
          · rw [List.getElem?_append_right (by omega)] at h1
            rw [List.getElem?_append_right (by rw [he.len]; omega), he.len] at h2
            exact p2.ok _ d x h1 h2
        · by_cases hi : i < E.length
          · rw [List.getElem?_append_left hi] at h1
            rw [List.getElem?_append_left (by rw [he.len]; exact hi)] at h2
            exact (he.inf i _ _ _ x h1 h2).mono (List.prefix_append _ _)
          · rw [List.getElem?_append_right (by omega)] at h1
            have := List.all_eq_true.1 r3 _ (List.mem_of_getElem? h1)
            simp at this
      · have := sh_sb (θ := θ) (ι := ι) r1 r2 hw
        rw [he.len] at this
        exact this

end
end Go.Ns

namespace Go.Ns
/-! ### A string's seed, the same for the same string -/
def findS (i : Nat) : Env → Nat → Option Nat
  | [], _ => none
  | d :: ds, j => match d with
    | .inf _ _ (.seed i') => if i' = i then some j else findS i ds (j + 1)
    | _ => findS i ds (j + 1)

theorem findS_ok {i : Nat} : ∀ (E : Env) (a j : Nat), findS i E a = some j → a ≤ j ∧ ∃ lo hi, E[j - a]? = some (.inf lo hi (.seed i))
  | [], a, j, h => by simp [findS] at h
  | d :: ds, a, j, h => by
    have tail : findS i ds (a + 1) = some j → a ≤ j ∧ ∃ lo hi, (d :: ds)[j - a]? = some (.inf lo hi (.seed i)) := by
      intro h
      obtain ⟨h1, lo, hi, h2⟩ := findS_ok ds (a + 1) j h
      refine ⟨by omega, lo, hi, ?_⟩
      have : j - a = (j - (a + 1)) + 1 := by omega
      rw [this, List.getElem?_cons_succ]
      exact h2
    simp only [findS] at h
    split at h
    · rename_i lo hi i'
      split at h
      · rename_i q
        subst q
        cases h
        exact ⟨Nat.le_refl _, lo, hi, by simp⟩
      · exact tail h
    · exact tail h

def seedF : GivA := fun E _ args H K => match args with
  | [.flt .f64 i] => match E[i]? with
    | some (.str m) => decide (m ≤ 9223372036854775807) && (match findS i E 0 with
      | some j => decide (j < 2 ^ 90) && K E (.ret (.int .u64 (encI j 0))) H
      | none => decide (E.length < 2 ^ 90) && K (E ++ [.inf 0 18446744073709551615 (.seed i)]) (.ret (.int .u64 (encI E.length 0))) H)
    | _ => false
  | _ => false

theorem seedF_ok {P : Program} {f : FuncId} (hr : ∀ (s : ByteArray), 0 ≤ seedW s s.size ∧ seedW s s.size ≤ 18446744073709551615)
    (hc : ∀ (s : ByteArray), s.size ≤ 9223372036854775807 → ∀ (b : Nat) (H : Heap), NCall P b f [.str s] H fun r H' => H' = H ∧ r = .ret (.int .u64 (seedW s s.size))) : GivOk P f seedF := by
  intro E b args H K hk θ ι b' args' H' he hh ha
  unfold seedF at hk
  split at hk
  · rename_i i
    cases ha with
    | cons v v' vs vs' h0 h1 =>
    cases h1
    split at hk
    · rename_i m hE
      simp only [Bool.and_eq_true, decide_eq_true_eq] at hk
      obtain ⟨hm, hk⟩ := hk
      cases h0 with
      | opq _ v hv hcell =>
      obtain ⟨s, rfl, hs⟩ := he.ok i _ _ hE hv
      refine (hc s (by omega) b' H').mono ?_
      rintro r H2 ⟨rfl, rfl⟩
      split at hk
      · rename_i j hj
        simp only [Bool.and_eq_true, decide_eq_true_eq] at hk
        obtain ⟨_, lo, hi, hE2⟩ := findS_ok E 0 j hj
        simp only [Nat.sub_zero] at hE2
        obtain ⟨w, hw, _⟩ := he.look hE2
        obtain ⟨s2, g1, g2⟩ := he.inf j lo hi _ w hE2 hw
        rw [hv] at g1; cases g1
        subst g2
        refine ⟨θ, E, ι, .ret _, H, .refl _, List.prefix_refl _, he, hh, ?_, hk.2⟩
        have := Sb.sym (θ := θ) (ι := ι) .u64 (encI j 0) j 0 .u64 _ (symI_enc (by decide) (by decide)) hw
        simp only [Int.add_zero] at this
        exact this
      · simp only [Bool.and_eq_true, decide_eq_true_eq] at hk
        have hg := Grow.int θ .u64 (seedW s s.size)
        refine ⟨_, _, ι, .ret _, H, hg, List.prefix_refl _, he.push (d := .inf 0 18446744073709551615 (.seed i)) ⟨.u64, _, rfl, (hr s).1, (hr s).2⟩ (fun lo hi f q => ?_), hh.grow hg, ?_, hk.2⟩
        · cases q
          exact ⟨s, pre_get (List.prefix_append _ _) hv, rfl⟩
        · have := Sb.sym (θ := θ ++ [.int .u64 (seedW s s.size)]) (ι := ι) .u64 (encI E.length 0) E.length 0 .u64 (seedW s s.size) (symI_enc (by decide) (by decide)) (by rw [← he.len]; simp)
          simp only [Int.add_zero] at this
          exact this
    · cases hk
  · cases hk
end Go.Ns

/- Ns, part Wd: a closed call that has been reckoned from nothing, taken in whatever abstract heap. -/
namespace Go.Ns

theorem ncall_lift {P : Program} {f : FuncId} (h : NCall P 0 f [] E0 fun r _ => r = .ret (.bool true)) (b : Nat) (H : Heap) : NCall P b f [] H fun r H' => r = .ret (.bool true) ∧ H' = H := by
  intro X rargs hr ha hb
  cases ha
  refine (h (Cx.start X.w) [] (hr_start _) .nil (Nat.zero_le _)).mono ?_
  rintro e w' ⟨r, H1, X1, rfl, hres, rfl, hr1, he, hl⟩
  have hw : ∀ i, i < X.w.heap.size → X1.w.heap[i]? = X.w.heap[i]? := fun i hi => he.frozen i hi
  have hx : Ext b X { L := X.L, FB := X.FB, w := X1.w } :=
    ⟨fun _ => .refl _, fun _ _ => rfl, fun _ q => q, fun i hi => hw i (hr.fbs i hi), fun i s hs => he.shapes i s hs, he.size, he.os, he.tape, he.output⟩
  refine ⟨.ret (.bool true), H, { L := X.L, FB := X.FB, w := X1.w }, rfl, ?_, ⟨rfl, rfl⟩, ?_, hx, .refl _ _⟩
  · cases e with
    | returned rv =>
      simp only [ResR] at hres ⊢
      cases hres
      exact .bool _
    | panicked ch => exact hres.elim
    | outgrown => exact hres.elim
  · refine ⟨hr.fresh, fun id i g hl => ?_, hr.dead, hr.inj, fun i hi => Nat.lt_of_lt_of_le (hr.fbs i hi) he.size⟩
    obtain ⟨o, ob, q1, q2, q3, q4⟩ := hr.live id i g hl
    exact ⟨o, ob, q1, by rw [hw i (Array.getElem?_eq_some_iff.1 q2).1]; exact q2, q3, q4.mono hx⟩

theorem lift_ok {P : Program} {f : FuncId} (h : NCall P 0 f [] E0 fun r _ => r = .ret (.bool true)) : GivOk P f (constG (.bool true)) := by
  intro E b args H K hk θ ι b' args' H' he hh ha
  cases ha with
  | cons => simp [constG] at hk
  | nil =>
    simp only [constG] at hk
    refine (ncall_lift h b' H').mono ?_
    rintro r H2 ⟨rfl, rfl⟩
    exact ⟨θ, E, ι, .ret (.bool true), H, .refl _, List.prefix_refl _, he, hh, .bool _, hk⟩

end Go.Ns

