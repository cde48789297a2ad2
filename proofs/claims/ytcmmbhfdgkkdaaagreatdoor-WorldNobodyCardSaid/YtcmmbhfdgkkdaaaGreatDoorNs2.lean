/- A logic of the model's calls, part 2. -/
import Derived.Test.YtcmmbhfdgkkdaaaGreatDoorNs1
import Derived.Recover
import Derived.Orders
/- Ns, part T: a call that leaves the abstract heap as it was: what it hands back is frozen. -/
namespace Go.Ns

mutual
/-- All that it leads to in the abstract heap is below n. -/
def belowV (n : Nat) : V → Bool
  | .ptr id _ _ => decide (id < n)
  | .hsl id _ _ _ _ _ _ => decide (id < n)
  | .map id => decide (id < n)
  | .undef | .bool _ | .int .. | .flt .. | .str _ | .nilp | .nils | .nilm | .nilf | .nili => true
  | .fptr cs => belowVs n cs
  | .fsl _ _ cs => belowVs n cs
  | .fn _ cs => belowVs n cs
  | .ifc _ v => belowV n v
  | .agg cs => belowVs n cs
  | .tup cs => belowVs n cs
def belowVs (n : Nat) : List V → Bool
  | [] => true
  | v :: vs => belowV n v && belowVs n vs
end

theorem belowVs_append (n : Nat) (a b : List V) : belowVs n (a ++ b) = (belowVs n a && belowVs n b) := by
  induction a with
  | nil => simp [belowVs]
  | cons v a ih => simp [belowVs, ih, Bool.and_assoc]

theorem belowVs_all {n : Nat} {l : List V} (h : ∀ v ∈ l, belowV n v = true) : belowVs n l = true := by
  induction l with
  | nil => rfl
  | cons v l ih => simp only [belowVs, Bool.and_eq_true]; exact ⟨h v (by simp), ih fun x hx => h x (by simp [hx])⟩

theorem PLink.lt {L : Nat → Link} {n id g : Nat} {p : Nat → Prop} (hf : ∀ id, n ≤ id → L id = .pend) (h : PLink (L id) g p) : id < n := by
  rcases Nat.lt_or_ge id n with q | q
  · exact q
  · rw [hf id q] at h; exact h.elim

mutual
theorem R.isBelow {X : Cx} {n : Nat} (hf : ∀ id, n ≤ id → X.L id = .pend) : ∀ {v : V} {rv : Value}, R X v rv → belowV n v = true
  | _, _, .undef _ => rfl
  | _, _, .bool _ => rfl
  | _, _, .int _ _ => rfl
  | _, _, .flt _ _ => rfl
  | _, _, .str _ => rfl
  | _, _, .nilp => rfl
  | _, _, .ptr id g off a hs hl => by simpa [belowV] using hl.lt hf
  | _, _, .fptr cs a rs ha hs hf' hc hr => by simpa [belowV] using RL.isBelow hf hr
  | _, _, .nils => rfl
  | _, _, .fsl ex n cs a rs cap ha hs hf' hn hx hc hr => by simpa [belowV] using RL.isBelow hf hr
  | _, _, .emp _ _ => rfl
  | _, _, .emp0 _ => rfl
  | _, _, .hsl id g off n sz ex c a cap hs hn hx hc hl => by simpa [belowV] using hl.lt hf
  | _, _, .nilm => rfl
  | _, _, .map id r hl => by simpa [belowV] using hl.lt hf
  | _, _, .nilf => rfl
  | _, _, .fn f cs rs _ hr => by simpa [belowV] using RL.isBelow hf hr
  | _, _, .fnb f fs cs rfs rs h1 h2 => by simp only [belowV, belowVs, RL.isBelow hf h1, RL.isBelow hf h2, Bool.and_self]
  | _, _, .nili => rfl
  | _, _, .ifc t v rv hr => by simpa [belowV] using R.isBelow hf hr
  | _, _, .agg cs rs ha hr => by simpa [belowV] using RL.isBelow hf hr
  | _, _, .tup cs rs hr => by simpa [belowV] using RL.isBelow hf hr
theorem RL.isBelow {X : Cx} {n : Nat} (hf : ∀ id, n ≤ id → X.L id = .pend) : ∀ {vs : List V} {rvs : List Value}, RL X vs rvs → belowVs n vs = true
  | _, _, .nil => rfl
  | _, _, .cons v rv vs rvs h1 h2 => by simp only [belowVs, R.isBelow hf h1, RL.isBelow hf h2, Bool.and_self]
end

/-- What it is when it is frozen, with all that has come since the abstract heap had n0 blocks. -/
def frz (n0 : Nat) (H : Heap) : Nat → V → Option V
  | 0, _ => none
  | d + 1, v => if belowV n0 v = true then some v else match v with
    | .hsl id g o n sz _ _ => match H.get id with
      | some (.cells g' cs) => if n0 ≤ id ∧ g' = g ∧ o + n * sz ≤ cs.length then ((rd cs o (n * sz)).mapM (frz n0 H d)).bind fun l => if l.all V.cell = true then some (.fsl false n l) else none else none
      | _ => none
    | .agg cs => (cs.mapM (frz n0 H d)).bind fun l => if l.all V.cell = true then some (.agg l) else none
    | .tup cs => (cs.mapM (frz n0 H d)).map .tup
    | _ => none

def Cx.froze (X : Cx) (n0 : Nat) : Cx := { L := fun id => if id < n0 then X.L id else .pend, FB := fun b => X.FB b ∨ ∃ id g, n0 ≤ id ∧ X.L id = .live b g, w := X.w }

mutual
theorem froze_below {X : Cx} (n0 : Nat) : ∀ {v : V} {rv : Value}, R X v rv → belowV n0 v = true → R (X.froze n0) v rv
  | _, _, .undef rv, _ => .undef rv
  | _, _, .bool b, _ => .bool b
  | _, _, .int k n, _ => .int k n
  | _, _, .flt k b, _ => .flt k b
  | _, _, .str s, _ => .str s
  | _, _, .nilp, _ => .nilp
  | _, _, .ptr id g off a hs hl, h => .ptr id g off a hs (by simp only [Cx.froze]; rw [if_pos (by simpa [belowV] using h)]; exact hl)
  | _, _, .fptr cs a rs ha hs hf hc hr, h => .fptr cs a rs ha hs (.inl hf) hc (froze_belowL n0 hr (by simpa [belowV] using h))
  | _, _, .nils, _ => .nils
  | _, _, .fsl ex n cs a rs cap ha hs hf hn hx hc hr, h => .fsl ex n cs a rs cap ha hs (.inl hf) hn hx hc (froze_belowL n0 hr (by simpa [belowV] using h))
  | _, _, .emp a cap, _ => .emp a cap
  | _, _, .emp0 a, _ => .emp0 a
  | _, _, .hsl id g off n sz ex c a cap hs hn hx hc hl, h => .hsl id g off n sz ex c a cap hs hn hx hc (by simp only [Cx.froze]; rw [if_pos (by simpa [belowV] using h)]; exact hl)
  | _, _, .nilm, _ => .nilm
  | _, _, .map id r hl, h => .map id r (by simp only [Cx.froze]; rw [if_pos (by simpa [belowV] using h)]; exact hl)
  | _, _, .nilf, _ => .nilf
  | _, _, .fn f cs rs ht hr, h => .fn f cs rs ht (froze_belowL n0 hr (by simpa [belowV] using h))
  | _, _, .fnb f fs cs rfs rs h1 h2, h => by
    have h' := (by simpa [belowV, belowVs] using h : belowVs n0 fs = true ∧ belowVs n0 cs = true)
    exact .fnb f fs cs rfs rs (froze_belowL n0 h1 h'.1) (froze_belowL n0 h2 h'.2)
  | _, _, .nili, _ => .nili
  | _, _, .ifc t v rv hr, h => .ifc t v rv (froze_below n0 hr (by simpa [belowV] using h))
  | _, _, .agg cs rs ha hr, h => .agg cs rs ha (froze_belowL n0 hr (by simpa [belowV] using h))
  | _, _, .tup cs rs hr, h => .tup cs rs (froze_belowL n0 hr (by simpa [belowV] using h))
theorem froze_belowL {X : Cx} (n0 : Nat) : ∀ {vs : List V} {rvs : List Value}, RL X vs rvs → belowVs n0 vs = true → RL (X.froze n0) vs rvs
  | _, _, .nil, _ => .nil
  | _, _, .cons v rv vs rvs h1 h2, h => by
    have h' : belowV n0 v = true ∧ belowVs n0 vs = true := by simpa [belowVs] using h
    exact .cons v rv vs rvs (froze_below n0 h1 h'.1) (froze_belowL n0 h2 h'.2)
end

theorem mapM_frz {X : Cx} {n0 d : Nat} {H : Heap} (ih : ∀ {v u : V} {rv : Value}, R X v rv → frz n0 H d v = some u → R (X.froze n0) u rv) : ∀ {vs us : List V} {rvs : List Value}, RL X vs rvs → vs.mapM (frz n0 H d) = some us → RL (X.froze n0) us rvs
  | _, us, _, .nil, h => by simp at h; subst h; exact .nil
  | _, us, _, .cons v rv vs rvs h1 h2, h => by
    rw [List.mapM_cons] at h
    simp only [bind, Option.bind_eq_some_iff, pure, Option.some.injEq] at h
    obtain ⟨u, hu, us', hus, rfl⟩ := h
    exact .cons _ _ _ _ (ih h1 hu) (mapM_frz ih h2 hus)

theorem frz_sim {X : Cx} {n0 : Nat} {H : Heap} (hr : HR X H) : ∀ (d : Nat) {v u : V} {rv : Value}, R X v rv → frz n0 H d v = some u → R (X.froze n0) u rv
  | 0, v, u, rv, h, hu => by simp [frz] at hu
  | d + 1, v, u, rv, h, hu => by
    simp only [frz] at hu
    split at hu
    · rename_i hp
      cases hu
      exact froze_below n0 h hp
    · split at hu
      · rename_i id g o n sz ex c _
        split at hu
        · rename_i g' cs hget
          split at hu
          · rename_i hcnd
            obtain ⟨hid, rfl, hlen⟩ := hcnd
            simp only [Option.bind_eq_some_iff] at hu
            obtain ⟨l, hl, hu⟩ := hu
            split at hu
            · rename_i hall
              cases hu
              cases h with
              | hsl _ _ _ _ _ _ _ a cap hsp hn hx hcc hlk =>
              obtain ⟨b, c', e, fz, hL, ⟨hb1, hb2, _⟩, hblk, hf, hall', hsz, hR, hfz⟩ := hr.block hlk hget
              have hcells := RL.of_block (X := X) hsz hR o (n * sz) hlen
              have hfr := mapM_frz (fun h1 h2 => frz_sim hr d h1 h2) hcells hl
              refine .fsl false n l a ((c'.toList.drop o).take (n * sz)) cap hall hsp (.inr ⟨id, g', hid, by rw [hb1]; exact hL⟩) hn (by simp) ?_ hfr
              intro j v hj
              rw [hb1, hb2]
              rw [List.getElem?_take] at hj
              split at hj
              · exact cells_of_block hblk o j v hj
              · cases hj
            · cases hu
          · cases hu
        · cases hu
      · rename_i cs
        simp only [Option.bind_eq_some_iff] at hu
        obtain ⟨l, hl, hu⟩ := hu
        split at hu
        · rename_i hall
          cases hu
          cases h with
          | agg _ rs ha hR => exact .agg _ _ hall (mapM_frz (fun h1 h2 => frz_sim hr d h1 h2) hR hl)
        · cases hu
      · rename_i cs
        simp only [Option.map_eq_some_iff] at hu
        obtain ⟨l, hl, rfl⟩ := hu
        cases h with
        | tup _ rs hR => exact .tup _ _ (mapM_frz (fun h1 h2 => frz_sim hr d h1 h2) hR hl)
      · cases hu

def frzR (n0 : Nat) (H : Heap) : Res → Option Res
  | .ret v => (frz n0 H 8 v).map .ret
  | .pan v => (frz n0 H 8 v).map .pan

/-- A call that is told to leave nothing behind but what it hands back. -/
theorem ncall_pure {P : Program} {base : Nat} {f : FuncId} {args : List V} {H : Heap} {Q : Res → Heap → Prop}
    (h : NCall P H.n f args H fun r H' => ∃ r', frzR H.n H' r = some r' ∧ Q r' H) : NCall P base f args H Q := by
  intro X rargs hr ha hb
  refine (h X rargs hr ha (Nat.le_refl _)).mono ?_
  rintro e w' ⟨r, H', X', rfl, hres, ⟨r', hfz, hq⟩, hr', he, hl⟩
  have hext : Ext base X (X'.froze H.n) := by
    refine ⟨fun id => ?_, fun id hi => ?_, fun b hb => .inl (he.fb b hb), fun b hb => he.frozen b hb, fun b s hs => he.shapes b s hs, he.size, he.os, he.tape, he.output⟩
    · simp only [Cx.froze]
      split
      · exact he.links id
      · rw [hr.fresh id (by omega)]; trivial
    · simp only [Cx.froze]
      rw [if_pos (by omega)]
      exact he.low id (by omega)
  have hhr : HR (X'.froze H.n) H := by
    refine ⟨fun id hi => ?_, fun id b g hlv => ?_, fun id hd => ?_, fun i j b g g' hi hj => ?_, fun b hb => ?_⟩
    · simp only [Cx.froze]; rw [if_neg (by omega)]
    · simp only [Cx.froze] at hlv
      split at hlv
      · rename_i hid
        obtain ⟨o, ob, q1, q2, q3, q4⟩ := hr'.live id b g hlv
        have hget : H.get id = some o := by rw [← hl.1 id hid]; exact q1
        have hX : X.L id = .live b g := by rw [← he.low id hid]; exact hlv
        obtain ⟨o2, ob2, p1, p2, p3, p4⟩ := hr.live id b g hX
        rw [hget] at p1; cases p1
        refine ⟨o, ob, hget, q2, ?_, ?_⟩
        · rintro (hf | ⟨id2, g2, hid2, hl2⟩)
          · exact q3 hf
          · have := hr'.inj id id2 b g g2 hlv hl2; omega
        · cases o with
          | cells g0 cs =>
            cases ob <;> simp only [ObjR] at q4
            cases ob2 <;> simp only [ObjR] at p4
            obtain ⟨a1, a2, a3, a4, a5⟩ := q4
            obtain ⟨b1, b2, b3, b4, b5⟩ := p4
            refine ⟨a1, a2, a3, fun j v rv hv hrv => froze_below H.n (a4 j v rv hv hrv) ?_, a5⟩
            have hj := (List.getElem?_eq_some_iff.1 hv).1
            exact R.isBelow hr.fresh (b4 j v _ hv (Array.getElem?_eq_getElem (by omega)))
          | map es clock =>
            cases ob <;> simp only [ObjR] at q4
            cases ob2 <;> simp only [ObjR] at p4
            obtain ⟨a1, a2, a3, a4⟩ := q4
            obtain ⟨b1, b2, b3, b4⟩ := p4
            refine ⟨a1, a2, a3, fun j e e' he1 he2 => ?_⟩
            have hj := (List.getElem?_eq_some_iff.1 he1).1
            obtain ⟨c1, c2, c3⟩ := a4 j e e' he1 he2
            obtain ⟨d1, d2, _⟩ := b4 j e _ he1 (Array.getElem?_eq_getElem (by omega))
            exact ⟨froze_below H.n c1 (R.isBelow hr.fresh d1), froze_below H.n c2 (R.isBelow hr.fresh d2), c3⟩
          | iter m s1 s2 s3 =>
            cases ob <;> simp only [ObjR] at q4
            cases ob2 <;> simp only [ObjR] at p4
            rename_i m1 _ _ _ m2 _ _ _
            obtain ⟨a1, a2, a3, a4, a5⟩ := q4
            obtain ⟨b1, b2, b3, b4, b5⟩ := p4
            refine ⟨a1, a2, a3, a4, ?_⟩
            cases m <;> cases m1 <;> simp only at a5 ⊢
            cases m2 <;> simp only at b5
            simp only [Cx.froze]
            rw [if_pos (b5.lt hr.fresh)]
            exact a5
      · cases hlv
    · simp only [Cx.froze] at hd
      split at hd
      · rename_i hid
        rw [← hl.1 id hid]; exact hr'.dead id hd
      · cases hd
    · simp only [Cx.froze] at hi hj
      split at hi <;> split at hj
      · exact hr'.inj i j b g g' hi hj
      · cases hj
      · cases hi
      · cases hi
    · rcases hb with hb | ⟨id, g, _, hlv⟩
      · exact hr'.fbs b hb
      · obtain ⟨_, _, _, q2, _⟩ := hr'.live id b g hlv
        exact (Array.getElem?_eq_some_iff.1 q2).1
  cases e with
  | returned rv =>
    cases r with
    | ret v =>
      simp only [frzR, Option.map_eq_some_iff] at hfz
      obtain ⟨u, hu, rfl⟩ := hfz
      exact ⟨.ret u, H, X'.froze H.n, rfl, frz_sim hr' 8 hres hu, hq, hhr, hext, .refl _ _⟩
    | pan v => exact hres.elim
  | panicked ch =>
    cases r with
    | ret v => exact hres.elim
    | pan v =>
      simp only [frzR, Option.map_eq_some_iff] at hfz
      obtain ⟨u, hu, rfl⟩ := hfz
      obtain ⟨rv, rfl, hres⟩ := hres
      exact ⟨.pan u, H, X'.froze H.n, rfl, ⟨rv, rfl, frz_sim hr' 8 hres hu⟩, hq, hhr, hext, .refl _ _⟩
  | outgrown => exact hres.elim

end Go.Ns

/- Ns, part U: a function with one deferred closure, that may recover. -/
namespace Go.Ns

def isRecover (o : Oper) : Bool :=
  match o.op with
  | .call { callee := .builtin .recover, .. } => o.guard.isNone
  | _ => false

/-- A deferred closure's code: its first operation is recover, which yields rv. -/
def NWpD (P : Program) (base N : Nat) (rv : V) : Code → (Ex → S → Prop) → S → Prop
  | .seq x y, Q, s => NWpD P base N rv x (thenQ (NWp P base N y Q) Q) s
  | .region _ ops false, Q, s => opsOk N ops.toList = true ∧ match ops.toList with
    | o :: rest => isRecover o = true ∧ opsW P base N ops (fun s' => Q .normal s') (fun v s' => Q (.pan v) s') rest ⟨upd s.σ o.dst rv, s.H, s.D⟩
    | [] => False
  | _, _, _ => False

section
variable {P : Program} {base N : Nat}

/-- Operations without recover, in a deferred call. -/
theorem wpOpsS_of_wpOps {ops : Array Oper} {Q : Exit → Act → World → Prop} (hno : ∀ a w, ¬ Q .outgrown a w) (cs : List Frame) : ∀ (l : List Nat) (a : Act) (w : World), wpOps P ops Q l a w → wpOpsS P ops (fun e a' cs' w' => cs' = cs ∧ Q e a' w') l a cs w
  | [], a, w, h => ⟨rfl, h⟩
  | i :: rest, a, w, h => by
    simp only [wpOps] at h
    simp only [wpOpsS]
    cases ho : ops[i]? with
    | none => simp only [ho] at h ⊢; exact wpOpsS_of_wpOps hno cs rest a w h
    | some o =>
      simp only [ho] at h ⊢
      split
      · rename_i hw
        simp only [hw, if_true] at h
        rcases h with h | ⟨_, a0, w0, hq⟩
        · unfold Oper.wp at h
          have ih := fun a w => wpOpsS_of_wpOps (ops := ops) hno cs rest a w
          generalize (execOp a.eval o).run P w = r at h ⊢
          cases r with
          | ok n w' =>
            cases n
            case value v => simp only [Oper.upon] at h ⊢; exact ih _ _ h
            case skip => simp only [Oper.upon] at h ⊢; exact ih _ _ h
            case defer d => simp only [Oper.upon] at h ⊢; exact ih _ _ h
            case enter f args =>
              simp only [Oper.upon] at h ⊢
              refine Calls.mono h ?_
              intro e w'' he
              cases e with
              | returned v => exact ih _ _ he
              | panicked ch => exact ⟨trivial, he⟩
              | outgrown => obtain ⟨a1, w1, h1⟩ := he; exact absurd h1 (hno _ _)
            case row row args =>
              simp only [Oper.upon] at h ⊢
              exact Rows.mono h fun _ _ he => ih _ _ he
            all_goals exact h.elim
          | halt x w' =>
            cases x
            case panic v => simp only [Oper.upon] at h ⊢; exact ⟨trivial, h⟩
            all_goals exact h.elim
        · exact absurd hq (hno _ _)
      · rename_i hw
        simp only [hw] at h
        exact wpOpsS_of_wpOps hno cs rest _ w h

theorem ExR.no {X : Cx} {ex : Ex} : ¬ ExR X .outgrown ex := by cases ex <;> simp [ExR]

theorem nwpD_sound {rv : V} : ∀ (c : Code) (Q : Ex → S → Prop) (s : S), NWpD P base N rv c Q s → ∀ (X : Cx) (a : Act), Rel base N X s a → ∀ (cs cs' : List Frame) (rrv : Value), R X rv rrv →
    (recoverD cs = some (rrv, cs') ∨ (recoverD cs = none ∧ cs' = cs ∧ rrv = .nilIface)) →
    c.wpS P (fun e a' cs'' w' => cs'' = cs' ∧ ∃ ex s' X', X'.w = w' ∧ ExR X' e ex ∧ Q ex s' ∧ Rel base N X' s' a' ∧ Ext base X X' ∧ Low base s.H s'.H) a cs X.w
  | .seq x y, Q, s, h, X, a, hr, cs, cs', rrv, hrv, hrec => by
    simp only [NWpD] at h
    have hx := nwpD_sound x _ s h X a hr cs cs' rrv hrv hrec
    refine wpS_seq ?_
    intro b k hb hro
    obtain ⟨e, a', cs'', w', ⟨rfl, ex, s', X', rfl, hex, hq, hr', he, hl⟩, harr⟩ := hx b k hb hro
    refine ⟨e, a', cs'', X'.w, ?_, harr⟩
    cases e <;> cases ex <;> simp only [ExR] at hex
    · refine wpS_of_wp (wp_mono (hq X' a' hr') ?_)
      rintro e2 a2 w2 ⟨ex2, s2, X2, rfl, hex2, hq2, hr2, he2, hl2⟩
      exact ⟨rfl, ex2, s2, X2, rfl, hex2, hq2, hr2, he.trans he2, hl.trans hl2⟩
    · exact ⟨rfl, .exit _, s', X', rfl, hex, hq, hr', he, hl⟩
    · exact ⟨rfl, .ret, s', X', rfl, hex, hq, hr', he, hl⟩
    · exact ⟨rfl, .pan _, s', X', rfl, hex, hq, hr', he, hl⟩
  | .region id ops false, Q, s, h, X, a, hr, cs, cs', rrv, hrv, hrec => by
    simp only [NWpD] at h
    obtain ⟨hok, h⟩ := h
    cases hl : ops.toList with
    | nil => rw [hl] at h; exact h.elim
    | cons o rest =>
      rw [hl] at h
      obtain ⟨hrecov, h⟩ := h
      have hops : ops = (o :: rest).toArray := by rw [← hl]
      refine wpS_region ?_
      have hN := opsOk_spec hok
      have hsize : ops.size = rest.length + 1 := by rw [hops]; simp
      rw [hsize, List.range_eq_range', List.range'_succ]
      simp only [wpOpsS]
      have h0 : ops[0]? = some o := by rw [hops]; simp
      simp only [h0]
      have hgu : o.guard = none ∧ ∃ args ts, o.op = .call { callee := .builtin .recover, args := args, argTypes := ts } := by
        unfold isRecover at hrecov
        split at hrecov
        · rename_i args ts ho; exact ⟨by simpa using hrecov, _, _, ho⟩
        · cases hrecov
      obtain ⟨hg, args, ts, ho⟩ := hgu
      have hwant : Region.wanted o (yielded ops a.tmps) = true := by simp [Region.wanted, hg]
      have hexec : (execOp a.eval o).run P X.w = .ok .recover X.w := by
        unfold execOp; rw [ho]; rfl
      rw [if_pos hwant, hexec]
      simp only
      have hdst : dstOk N o.dst := by
        cases hd : o.dst with
        | none => trivial
        | some d =>
          have : o ∈ ops.toList := by rw [hl]; simp
          have := List.all_eq_true.1 hok o this
          simpa [dstOk, hd] using this
      have hput : Rel base N X ⟨upd s.σ o.dst rv, s.H, s.D⟩ (a.put o.dst rrv) := hr.put hdst hrv
      have hrest : wpOps P ops (fun e a' w' => ∃ ex s' X', X'.w = w' ∧ ExR X' e ex ∧ Q ex s' ∧ Rel base N X' s' a' ∧ Ext base X X' ∧ Low base s.H s'.H) (List.range' (0 + 1) rest.length) (a.put o.dst rrv) X.w := by
        rw [Nat.zero_add, wpOps_eq_wpList rest 1 (fun j => by rw [hops]; simp [Nat.add_comm])]
        have hN' : ∀ (j : Nat) (o' : Oper) (d : Tmp), ops[j]? = some o' → o'.dst = some d → d < N := fun j o' d h1 h2 => hN j o' d (by simpa using h1) h2
        refine opsW_sound (X0 := X) (H0 := s.H) hN' rest _ X _ h hput (.refl _ _) (.refl _ _) ?_ ?_
        · intro s' X' a' h1 h2 h3 h4; exact ⟨.normal, s', X', rfl, trivial, h4, h1, h2, h3⟩
        · intro v s' X' a' rv' h1 h2 h3 h4 h5; exact ⟨.pan v, s', X', rfl, ⟨rv', rfl, h4⟩, h5, h1, h2, h3⟩
      have hfin := wpOpsS_of_wpOps (fun a w => by rintro ⟨ex, s', X', _, hex, _⟩; exact ExR.no hex) cs' _ _ _ hrest
      rcases hrec with hrec | ⟨hrec, rfl, rfl⟩
      · rw [hrec]; exact hfin
      · rw [hrec]; exact hfin
  | .skip, _, _, h, _, _, _, _, _, _, _, _ => by simp [NWpD] at h
  | .region _ _ true, _, _, h, _, _, _, _, _, _, _, _ => by simp [NWpD] at h
  | .cond .., _, _, h, _, _, _, _, _, _, _, _ => by simp [NWpD] at h
  | .block .., _, _, h, _, _, _, _, _, _, _, _ => by simp [NWpD] at h
  | .loop _, _, _, h, _, _, _, _, _, _, _, _ => by simp [NWpD] at h
  | .rangeFunc .., _, _, h, _, _, _, _, _, _, _, _ => by simp [NWpD] at h
  | .exit _, _, _, h, _, _, _, _, _, _, _, _ => by simp [NWpD] at h
  | .scope _, _, _, h, _, _, _, _, _, _, _, _ => by simp [NWpD] at h
  | .label _, _, _, h, _, _, _, _, _, _, _, _ => by simp [NWpD] at h
  | .goto _, _, _, h, _, _, _, _, _, _, _, _ => by simp [NWpD] at h
  | .ret, _, _, h, _, _, _, _, _, _, _, _ => by simp [NWpD] at h
  | .refuse _, _, _, h, _, _, _, _, _, _, _, _ => by simp [NWpD] at h

/-- A deferred closure, called with 'rcv' to be recovered: it returns, and K holds of the abstract heap behind it. -/
def DCall (P : Program) (base : Nat) (g : FuncId) (cap : List V) (rcv : V) (H : Heap) (K : Heap → Prop) : Prop :=
  ∃ fn c, P.funcs[g]? = some fn ∧ fn.body = some c ∧ fn.results = #[] ∧ cap.length ≤ fn.ntmps ∧
    NWpD P base fn.ntmps rcv c (fun ex s => match ex with | .normal | .ret => s.D = [] ∧ K s.H | _ => False) ⟨σ0 cap, H, []⟩

theorem dcall_sound {g : FuncId} {cap : List V} {rcv : V} {H : Heap} {K : Heap → Prop} (h : DCall P base g cap rcv H K) {X : Cx} {rcap : List Value} (hr : HR X H) (hb : base ≤ H.n) (hc : RL X cap rcap) {u u' : FrameMode}
    (hu : (u = .returning ∧ rcv = .nili ∧ u' = .returning) ∨ ∃ rv, u = .panicking [{ v := rv, recovered := false }] ∧ R X rcv rv ∧ u' = .panicking [{ v := rv, recovered := true }]) :
    CallsD P g rcap.toArray u X.w fun e u2 w' => (∃ rv, e = .returned rv) ∧ u2 = u' ∧ ∃ H' X', X'.w = w' ∧ HR X' H' ∧ Ext base X X' ∧ Low base H H' ∧ K H' := by
  obtain ⟨fn, c, hf, hbody, hres, hn, hw⟩ := h
  refine callsD_of_wpS hf hbody ?_
  intro c₀ cs hm
  have hrel := rel_init (base := base) hr hb hc fn.ntmps
  have hN : rcap.length + (fn.ntmps - rcap.length) = fn.ntmps := by rw [← hc.length]; omega
  rw [hN] at hrel
  have main : ∀ rrv cs', R X rcv rrv → (recoverD (c₀ :: cs) = some (rrv, cs') ∨ (recoverD (c₀ :: cs) = none ∧ cs' = c₀ :: cs ∧ rrv = .nilIface)) → cs' = { c₀ with mode := u' } :: cs →
      c.wpS P (bodyPostS P fn c₀ cs fun e u2 w' => (∃ rv, e = .returned rv) ∧ u2 = u' ∧ ∃ H' X', X'.w = w' ∧ HR X' H' ∧ Ext base X X' ∧ Low base H H' ∧ K H')
        { tmps := rcap.toArray ++ Array.replicate (fn.ntmps - rcap.toArray.size) undef, defers := [] } (c₀ :: cs) X.w := by
    intro rrv cs' hrv hrec hcs
    intro b k hb' hro
    obtain ⟨e, a', cs'', w', ⟨rfl, ex, s', X', rfl, hex, hq, hr', he, hl⟩, harr⟩ := nwpD_sound c _ _ hw X _ hrel (c₀ :: cs) cs' rrv hrv hrec b k hb' hro
    refine ⟨e, a', cs'', X'.w, ?_, harr⟩
    have fin : s'.D = [] ∧ K s'.H → a'.defers = [] ∧ ∃ u2, cs'' = { c₀ with mode := u2 } :: cs ∧ ∃ v, (results fn a'.tmps).run P X'.w = .ok v X'.w ∧ (∃ rv, Ending.returned v = .returned rv) ∧ u2 = u' ∧ ∃ H' X'', X''.w = X'.w ∧ HR X'' H' ∧ Ext base X X'' ∧ Low base H H' ∧ K H' := by
      rintro ⟨hD, hK⟩
      have hds : a'.defers = [] := by
        have := hr'.ds
        rw [hD] at this
        generalize a'.defers = ds at this
        cases this; rfl
      refine ⟨hds, u', hcs, .tuple #[], ?_, ⟨_, rfl⟩, rfl, s'.H, X', rfl, hr'.hr, he, hl, hK⟩
      rw [results_eq, hres]
      simp
    cases e <;> cases ex <;> simp only [ExR] at hex
    · exact fin hq
    · exact hq.elim
    · exact fin hq
    · exact hq.elim
  rcases hu with ⟨hu, hrec, hu'⟩ | ⟨rv, hu, hrec, hu'⟩
  · subst hrec
    refine main .nilIface (c₀ :: cs) .nili (.inr ⟨?_, rfl, rfl⟩) ?_
    · simp only [recoverD]; rw [hm, hu]
    · rw [hu', ← hu, ← hm]
  · refine main rv ({ c₀ with mode := u' } :: cs) hrec (.inl ?_) rfl
    simp only [recoverD]; rw [hm, hu, hu']

/-- What a body with one deferred closure must end in. -/
def deferQ (P : Program) (base : Nat) (rs : List ResultVar) (Q : Res → Heap → Prop) : Ex → S → Prop
  | .normal, s | .ret, s => ∃ g cap, s.D = [(g, cap)] ∧ fnT P g = true ∧ DCall P base g cap .nili s.H fun H' => match resVs P ⟨s.σ, H', []⟩ rs with | some vs => Q (.ret (oneV vs)) H' | none => False
  | .pan v, s => ∃ g cap, s.D = [(g, cap)] ∧ fnT P g = true ∧ DCall P base g cap v s.H fun H' => match resVs P ⟨s.σ, H', []⟩ rs with | some vs => Q (.ret (oneV vs)) H' | none => False
  | .exit _, _ => False

theorem ncall_defer {f : FuncId} {fn : Func} {c : Code} {args : List V} {H : Heap} {Q : Res → Heap → Prop} (hf : P.funcs[f]? = some fn) (hbody : fn.body = some c) (hn : args.length ≤ fn.ntmps)
    (h : NWp P base fn.ntmps c (deferQ P base fn.results.toList Q) ⟨σ0 args, H, []⟩) : NCall P base f args H Q := by
  intro X rargs hr ha hb
  refine calls_of_wp_defers hf hbody ?_
  have hrel := rel_init hr hb ha fn.ntmps
  have hN : rargs.length + (fn.ntmps - rargs.length) = fn.ntmps := by rw [← ha.length]; omega
  rw [hN] at hrel
  refine wp_mono (h X _ hrel) ?_
  rintro e a' w' ⟨ex, s', X', rfl, hex, hq, hr', he, hl⟩
  have leave : ∀ (u u' : FrameMode) (rcv : V), u ≠ .run → settle u' = .returning →
      ((u = .returning ∧ rcv = .nili ∧ u' = .returning) ∨ ∃ rv, u = .panicking [{ v := rv, recovered := false }] ∧ R X' rcv rv ∧ u' = .panicking [{ v := rv, recovered := true }]) →
      (∃ g cap, s'.D = [(g, cap)] ∧ fnT P g = true ∧ DCall P base g cap rcv s'.H fun H' => match resVs P ⟨s'.σ, H', []⟩ fn.results.toList with | some vs => Q (.ret (oneV vs)) H' | none => False) →
      Leaves P fn a'.tmps (fun e w' => ∃ r H' X', X'.w = w' ∧ ResR X' e r ∧ Q r H' ∧ HR X' H' ∧ Ext base X X' ∧ Low base H H') a'.defers u X'.w := by
    rintro u u' rcv hu hset hmode ⟨g, cap, hD, hfn, hd⟩
    have hds := hr'.ds
    rw [hD] at hds
    generalize hdq : a'.defers = ds at hds
    cases hds with
    | cons _ _ rcap _ ds' hcap hnil =>
    cases hnil
    refine leaves_cons hu ?_ ((dcall_sound hd hr'.hr hr'.low hcap hmode).mono ?_)
    · exact (by simp [invoke, run_enter hfn] : (invoke (.fn (.func g) rcap.toArray) #[]).run P X'.w = .ok (.enter g rcap.toArray) X'.w)
    · rintro e u2 w2 ⟨⟨rv, rfl⟩, rfl, H2, X2, rfl, h2, he2, hl2, hk⟩
      simp only [hset]
      have hr2 : Rel base fn.ntmps X2 ⟨s'.σ, H2, []⟩ { tmps := a'.tmps, defers := [] } := ⟨h2, hr'.n, fun t => R.mono he2 (hr'.tm t), .nil, Nat.le_trans hr'.low hl2.2⟩
      split at hk
      · rename_i vs h1
        obtain ⟨rv, g1, g2⟩ := results_sim (fn := fn) hr2 h1
        exact ⟨rv, g1, .ret (oneV vs), H2, X2, rfl, g2, hk, h2, he.trans he2, hl.trans hl2⟩
      · exact hk.elim
  cases e <;> cases ex <;> simp only [ExR] at hex
  · exact leave .returning .returning .nili (by simp) rfl (.inl ⟨rfl, rfl, rfl⟩) hq
  · exact hq.elim
  · exact leave .returning .returning .nili (by simp) rfl (.inl ⟨rfl, rfl, rfl⟩) hq
  · obtain ⟨rv, rfl, hv⟩ := hex
    exact leave _ _ _ (by simp) rfl (.inr ⟨rv, rfl, hv, rfl⟩) hq

end
end Go.Ns

/- Ns, part V: a statement whose order Go leaves open: one order is gone through, and what is unordered with an effect is asked again behind it. -/
namespace Go.Ns

/-- An operation that only yields a value. -/
def valV (P : Program) (o : Oper) (ρ : Operand → V) (H : Heap) : Option V :=
  match o.op with
  | .move x | .assign x => some (ρ x)
  | .pick c a b => match ρ c with | .bool true => some (ρ a) | .bool false => some (ρ b) | _ => none
  | .build t ps => bdV P t (ps.toList.map fun p => (p.1, ρ p.2))
  | .buildSlice t n ps => bsV P t n (ps.toList.map fun p => (p.1, ρ p.2))
  | .load t a => ldV P H t (ρ a)
  | .nilCheck x => match ρ x with | .ptr id g o => some (.ptr id g o) | .fptr cs => some (.fptr cs) | _ => none
  | .binOp op t x y _ => binV P op t (ρ x) (ρ y)
  | .unOp op _ x => unV op (ρ x)
  | .convert s d x => match cvV P s d (ρ x) with | some v => some v | none => bstV P H s d (ρ x)
  | .makeInterface t x => miV P t (ρ x)
  | .makeFunc (.func f) first cap => if first.isEmpty then (if hdT (cap.toList.map ρ) = false then some (.fn f (cap.toList.map ρ)) else none) else some (.fn f (.tup (first.toList.map ρ) :: cap.toList.map ρ))
  | .slice t x lo hi mx => slV P H t (ρ x) (lo.map ρ) (hi.map ρ) (mx.map ρ)
  | .fieldAddr t x i => faV P t (ρ x) i
  | .field t x i => fdV P t (ρ x) i
  | .indexAddr t x i => iaV P t (ρ x) (ρ i)
  | .index t x i => ixV P t (ρ x) (ρ i)
  | .lookup t x i ok => lkV P H t (ρ x) (ρ i) ok
  | .entry it => enV H (ρ it)
  | .typeAssert x _ t true => taV P (ρ x) t
  | .extract x i => exV (ρ x) i
  | .call { callee := .builtin .len, args, argTypes } => match argTypes.toList, args.toList.map ρ with
    | [t], [x] => lnV P H t x
    | _, _ => none
  | .call { callee := .builtin .min, args, .. } => mmV false (args.toList.map ρ)
  | .call { callee := .builtin .max, args, .. } => mmV true (args.toList.map ρ)
  | _ => none

theorem val_opW {P : Program} {base : Nat} {o : Oper} {ρ : Operand → V} {H : Heap} {v : V} (h : valV P o ρ H = some v) {K : V → Heap → Prop} {KD : FuncId → List V → Prop} {KP : V → Heap → Prop} (hk : K v H) : opW P base o ρ H K KD KP := by
  obtain ⟨dst, op, type, pos, after, guard⟩ := o
  cases op <;> simp only [valV] at h <;> simp only [opW]
  case move x => cases h; exact hk
  case assign x => cases h; exact hk
  case pick c a b => split at h <;> first | (cases h; rename_i hq; simp only [hq]; exact hk) | cases h
  case build => rw [h]; exact hk
  case buildSlice => rw [h]; exact hk
  case load => rw [h]; exact hk
  case nilCheck => split at h <;> first | (cases h; rename_i hq; simp only [hq]; exact hk) | cases h
  case binOp => rw [h]; exact hk
  case unOp => rw [h]; exact hk
  case convert s d x =>
    unfold cvW
    split at h
    · rename_i u hq; cases h; rw [hq]; exact hk
    · rename_i hq; rw [hq]; simp only [h]; exact hk
  case makeInterface => rw [h]; exact hk
  case makeFunc fn first cap =>
    cases fn <;> simp only at h ⊢ <;> first | (cases h; done) | skip
    split at h
    · rename_i hq
      rw [if_pos hq]
      split at h
      · rename_i h2; cases h; exact ⟨h2, hk⟩
      · cases h
    · rename_i hq; cases h; rw [if_neg hq]; exact hk
  case slice => rw [h]; exact hk
  case fieldAddr => rw [h]; exact hk
  case field => rw [h]; exact hk
  case indexAddr => rw [h]; exact hk
  case index => rw [h]; exact hk
  case lookup => rw [h]; exact hk
  case entry => rw [h]; exact hk
  case typeAssert x s t ok =>
    cases ok <;> simp only at h ⊢
    · cases h
    · rw [h]; exact hk
  case extract => rw [h]; exact hk
  case call c =>
    obtain ⟨callee, args, argTypes⟩ := c
    cases callee with
    | value f => simp at h
    | invoke r m => simp at h
    | builtin b =>
      cases b <;> simp only at h <;> first | (cases h; done) | skip
      case len =>
        simp only [bltW]
        split at h
        · rename_i t x h1 h2; rw [h1, h2]; simp only; rw [h]; exact hk
        · cases h
      case min => simp only [bltW]; rw [h]; exact hk
      case max => simp only [bltW]; rw [h]; exact hk
  all_goals (first | (cases h; done) | skip)

/-- An operation that makes a block of its own, and does nothing else: what its value is and what stands in the block, if the block has the number id. -/
def frV (P : Program) (o : Oper) (ρ : Operand → V) (id : Nat) : Option (V × HObj) :=
  match o.op with
  | .alloc t => (zvT P t).bind fun z => (vcells z).map fun cs => (.ptr id 0 0, .cells 0 cs)
  | .makeSlice t l c => match slcT P t, ρ l, ρ c with
    | some (e, sz, by_), .int _ l, .int _ c => match (zvT P e).bind vcells with
      | some zs => if zs.length = sz ∧ 0 < sz ∧ 0 ≤ l ∧ l ≤ c ∧ c ≤ 2 ^ 40 ∧ (by_ : Int) * c ≤ 2 ^ 48 then
          some (.hsl id 0 0 l.toNat sz true c.toNat, .cells 0 (List.replicate c.toNat zs).flatten) else none
      | none => none
    | _, _, _ => none
  | _ => none

def isFree (o : Oper) : Bool := match o.op with | .alloc _ | .makeSlice .. => true | _ => false

def isEff (o : Oper) : Bool :=
  match o.op with
  | .store .. | .box .. | .makeMap .. | .mapUpdate .. | .insert .. | .range .. | .next .. | .defer _ | .panic _ => true
  | .call { callee := .builtin .len, .. } | .call { callee := .builtin .min, .. } | .call { callee := .builtin .max, .. } => false
  | .call _ => true
  | _ => false

structure Ent where
  i : Nat
  σ : Nat → V
  v : V
  id : Option Nat

/-- Is what was found still so, in the abstract heap H? -/
def again (P : Program) (ops : Array Oper) (H : Heap) (e : Ent) : Prop :=
  match ops[e.i]? with
  | none => False
  | some o => match wantV ops e.σ o.guard with
    | none => False
    | some false => e.v = .tup [] ∧ e.id = none
    | some true => if isEff o = true then True else match e.id with
      | some id => isFree o = true ∧ match frV P o (ρV e.σ) id with
        | some (v, ob) => v = e.v ∧ H.get id = some ob
        | none => False
      | none => valV P o (ρV e.σ) H = some e.v

def depOf (D : List (List Nat)) (i j : Nat) : Bool := (D.getD i []).contains j

/-- Does what the operation yields hang on the heap? -/
def heapy (o : Oper) : Bool :=
  match o.op with
  | .load .. | .convert .. | .slice .. | .lookup .. | .entry .. | .alloc .. | .makeSlice .. => true
  | .call _ => true
  | _ => false

def heapyAt (ops : Array Oper) (i : Nat) : Bool := match ops[i]? with | some o => heapy o | none => true

def effBase (D : List (List Nat)) (rc : List Ent) (i : Nat) (H : Heap) (base : Nat) : Nat :=
  if (rc.any fun e => e.id.isSome && !depOf D i e.i) = true then H.n else base

/-- Going through the operations in the order 'todo'. -/
def drawW (P : Program) (base N : Nat) (ops : Array Oper) (D : List (List Nat)) (K : Option V → S → Prop) : List Nat → S → List Ent → Prop
  | [], s, _ => K none s
  | i :: rest, s, rc => match ops[i]? with
    | none => False
    | some o => dstOk N o.dst ∧ match wantV ops s.σ o.guard with
      | none => False
      | some false => drawW P base N ops D K rest ⟨upd s.σ o.dst (.tup []), s.H, s.D⟩ (rc ++ [⟨i, s.σ, .tup [], none⟩])
      | some true =>
        if isEff o = true then
          opW P (effBase D rc i s.H base) o (ρV s.σ) s.H
            (fun v H' => (∀ e ∈ rc.filter (fun e => heapyAt ops e.i && !depOf D i e.i), again P ops H' e) ∧ drawW P base N ops D K rest ⟨upd s.σ o.dst v, H', s.D⟩ (rc ++ [⟨i, s.σ, v, none⟩]))
            (fun _ _ => False) (fun v H' => (rest.isEmpty && rc.all fun e => depOf D i e.i) = true ∧ K (some v) ⟨s.σ, H', s.D⟩)
        else if isFree o = true then match frV P o (ρV s.σ) s.H.n with
          | some (v, ob) => (∀ e ∈ rc.filter (fun e => heapyAt ops e.i), again P ops (s.H.new ob) e) ∧ drawW P base N ops D K rest ⟨upd s.σ o.dst v, s.H.new ob, s.D⟩ (rc ++ [⟨i, s.σ, v, some s.H.n⟩])
          | none => False
        else match valV P o (ρV s.σ) s.H with
          | some v => drawW P base N ops D K rest ⟨upd s.σ o.dst v, s.H, s.D⟩ (rc ++ [⟨i, s.σ, v, none⟩])
          | none => False

/-! ### What is asked of a region, once and for all -/
def edges (o : Oper) : List Nat := (o.after.toList.filter fun e => Region.binds .any e).map (·.on)
def edgesAt (ops : Array Oper) (i : Nat) : List Nat := match ops[i]? with | some o => edges o | none => []
def dstAt (ops : Array Oper) (i : Nat) : Option Tmp := match ops[i]? with | some o => o.dst | none => none
def effAt (ops : Array Oper) (i : Nat) : Bool := match ops[i]? with | some o => isEff o | none => true

def topo (ops : Array Oper) (D : List (List Nat)) : List Nat → List Nat → Bool
  | _, [] => true
  | seen, i :: rest => (edgesAt ops i).all (seen.contains ·) && (D.getD i []).all (seen.contains ·) && !seen.contains i && decide (i < ops.size) && topo ops D (i :: seen) rest

def eager (ops : Array Oper) (D : List (List Nat)) : List Nat → Bool
  | [] => true
  | i :: rest => (!effAt ops i || rest.all (fun j => depOf D j i)) && eager ops D rest

def slotsOk (ops : Array Oper) (D : List (List Nat)) : Bool :=
  (List.range ops.size).all fun i => (List.range ops.size).all fun j => i == j || match ops[i]?, ops[j]? with
    | some o, some q => match q.dst with
      | some x => o.dst != some x && (!(o.looksAt ops).contains x || depOf D i j || depOf D j i)
      | none => true
    | _, _ => true

def drawOk (ops : Array Oper) (D : List (List Nat)) (π : List Nat) : Bool :=
  decide (π.length ≤ ops.size) && (List.range ops.size).all (fun i => π.contains i) && topo ops D [] π && eager ops D π && slotsOk ops D &&
  (List.range ops.size).all (fun i => (D.getD i []).all fun j => (edgesAt ops i).contains j || (edgesAt ops i).any fun k => depOf D k j)

/-! ### The list of what was found -/
def sig (ops : Array Oper) (σ : Nat → V) (rc : List Ent) : Nat → V := rc.foldl (fun σ e => upd σ (dstAt ops e.i) e.v) σ

theorem upd_ne {σ : Nat → V} {d : Option Tmp} {v : V} {t : Nat} (h : d ≠ some t) : upd σ d v t = σ t := by
  cases d with
  | none => rfl
  | some d => simp only [upd]; rw [if_neg (fun e => h (by rw [e]))]

theorem sig_append (ops : Array Oper) (σ : Nat → V) (A B : List Ent) : sig ops σ (A ++ B) = sig ops (sig ops σ A) B := by simp [sig, List.foldl_append]

theorem sig_ne {ops : Array Oper} {t : Nat} : ∀ {l : List Ent} {σ : Nat → V}, (∀ e ∈ l, dstAt ops e.i ≠ some t) → sig ops σ l t = σ t
  | [], _, _ => rfl
  | e :: l, σ, h => by
    have := sig_ne (l := l) (σ := upd σ (dstAt ops e.i) e.v) fun e' he' => h e' (List.mem_cons_of_mem _ he')
    rw [show sig ops σ (e :: l) t = sig ops (upd σ (dstAt ops e.i) e.v) l t from rfl, this]
    exact upd_ne (h e List.mem_cons_self)

theorem sig_at {ops : Array Oper} {t : Nat} {A B : List Ent} {e : Ent} {σ : Nat → V} (he : dstAt ops e.i = some t) (h : ∀ e' ∈ B, dstAt ops e'.i ≠ some t) : sig ops σ (A ++ e :: B) t = e.v := by
  rw [sig_append, show sig ops (sig ops σ A) (e :: B) = sig ops (upd (sig ops σ A) (dstAt ops e.i) e.v) B from rfl, sig_ne h, he]
  simp [upd]

theorem sig_congr {ops : Array Oper} {t : Nat} : ∀ {l : List Ent} {σ σ' : Nat → V}, σ t = σ' t → sig ops σ l t = sig ops σ' l t
  | [], _, _, h => h
  | e :: l, σ, σ', h => by
    refine sig_congr (l := l) ?_
    show upd σ (dstAt ops e.i) e.v t = upd σ' (dstAt ops e.i) e.v t
    by_cases ht : dstAt ops e.i = some t
    · rw [ht]; simp [upd]
    · rw [upd_ne ht, upd_ne ht]; exact h

theorem sig_ins {ops : Array Oper} {A B : List Ent} {e : Ent} {σ : Nat → V} (h : ∀ e' ∈ B, ∀ t, dstAt ops e.i = some t → dstAt ops e'.i ≠ some t) : sig ops σ (A ++ e :: B) = upd (sig ops σ (A ++ B)) (dstAt ops e.i) e.v := by
  funext t
  by_cases ht : dstAt ops e.i = some t
  · rw [sig_at ht fun e' he' => h e' he' t ht, ht]; simp [upd]
  · rw [upd_ne ht, sig_append, sig_append]
    exact sig_congr (upd_ne ht)

end Go.Ns

/- Ns, part W: a statement whose order Go leaves open: the proof that one order speaks for all. -/
namespace Go.Ns

/-! ### A block of its own, made late -/
section
variable {P : Program} {X : Cx} {H : Heap}

theorem ext_pushAt (h : HR X H) {id : Nat} (hp : X.L id = .pend) (ob : Obj) {base : Nat} (hb : base ≤ id) : Ext base X (X.push id ob) where
  links k := by
    simp only [Cx.push]
    split
    · rename_i hi; rw [hi, hp]; trivial
    · exact .refl _
  low k hi := by simp only [Cx.push]; rw [if_neg (by omega)]
  fb b hb := hb
  frozen b hb := heap_push_lt (h.fbs b hb)
  shapes b s hs := shape_push hs
  size := by simp [Cx.push]
  os := rfl
  tape := rfl
  output := rfl

theorem hr_pushAt (h : HR X H) {id : Nat} (hp : X.L id = .pend) (hn : id < H.n) {o : HObj} (hg : H.get id = some o) {ob : Obj} (ho : ObjR X o 0 ob) : HR (X.push id ob) H where
  fresh k hi := by
    simp only [Cx.push]
    rw [if_neg (by omega)]
    exact h.fresh k hi
  live k b g hl := by
    simp only [Cx.push] at hl ⊢
    split at hl
    · rename_i hi
      cases hl
      refine ⟨o, ob, by rw [hi]; exact hg, by simp, fun hf => absurd (h.fbs _ hf) (by omega), ?_⟩
      exact ho.mono (ext_pushAt h hp ob (base := 0) (Nat.zero_le _))
    · obtain ⟨o', ob', h1, h2, h3, h4⟩ := h.live k b g hl
      have hlt : b < X.w.heap.size := (Array.getElem?_eq_some_iff.1 h2).1
      exact ⟨o', ob', h1, by rw [heap_push_lt hlt]; exact h2, h3, h4.mono (ext_pushAt h hp ob (base := 0) (Nat.zero_le _))⟩
  dead k hl := by
    simp only [Cx.push] at hl
    split at hl
    · cases hl
    · exact h.dead k hl
  inj i j b g g' hi hj := by
    simp only [Cx.push] at hi hj
    split at hi <;> split at hj
    · omega
    · cases hi
      obtain ⟨_, _, _, h2, _⟩ := h.live j _ _ hj
      have hlt := (Array.getElem?_eq_some_iff.1 h2).1
      omega
    · cases hj
      obtain ⟨_, _, _, h2, _⟩ := h.live i _ _ hi
      have hlt := (Array.getElem?_eq_some_iff.1 h2).1
      omega
    · exact h.inj i j b g g' hi hj
  fbs b hb := by
    have := h.fbs b hb
    simp [Cx.push]; omega

theorem fr_sim {o : Oper} {ρ : Operand → V} {a : Act} (hρ : ∀ x, R X (ρ x) (a.eval x)) {id : Nat} {v : V} {ob : HObj} (hf : frV P o ρ id = some (v, ob)) :
    ∃ ru obj, (execOp a.eval o).run P X.w = .ok (.value ru) { X.w with heap := X.w.heap.push obj } ∧ ObjR X ob 0 obj ∧ R (X.push id obj) v ru := by
  obtain ⟨dst, op, type, pos, after, guard⟩ := o
  unfold frV at hf
  split at hf
  · rename_i t hop
    simp only at hop
    subst hop
    simp only [Option.bind_eq_some_iff, Option.map_eq_some_iff] at hf
    obtain ⟨z, hz, cs, hcs, he⟩ := hf
    cases he
    obtain ⟨rz, h1, h2⟩ := zv_sim (X := X) hz
    obtain ⟨h3, h4⟩ := vcells_sim h2 hcs
    refine ⟨.pointer (some ⟨X.w.heap.size, 0, none⟩), .cells rz.cells.toList.toArray t, ?_, objR_cells h3 h4, .ptr _ _ _ _ rfl (by simp [Cx.push, PLink])⟩
    simp [execOp, Instr.alloc, h1, newVar, newRow]
  · rename_i t l c hop
    simp only at hop
    subst hop
    split at hf
    · rename_i e sz by_ k1 l' k2 c' ht hl hc
      obtain ⟨i, hu0, hi, hsz, hby⟩ := slcT_spec ht
      split at hf
      · rename_i zs hz
        simp only [Option.bind_eq_some_iff] at hz
        obtain ⟨z, hz, hzv⟩ := hz
        split at hf
        · rename_i hcd
          obtain ⟨hzl, hs0, hl0, hlc, hc40, hc48⟩ := hcd
          cases hf
          have hL := hρ l
          have hC := hρ c
          rw [hl] at hL
          rw [hc] at hC
          generalize hrl : a.eval l = rl at hL
          generalize hrc : a.eval c = rc at hC
          cases hL; cases hC
          obtain ⟨rz, g1, g2, g3⟩ := zero_cells (P := P) (X := X) hz hzv
          have l5 : rz.cells.size = sz := by rw [← hzl, g2.length]; simp
          have wl : IntKind.i64.wrap l' = l' := by simp [IntKind.wrap, IntKind.bits, IntKind.signed]; omega
          have wc : IntKind.i64.wrap c' = c' := by simp [IntKind.wrap, IntKind.bits, IntKind.signed]; omega
          have htl : (c' < 0 || decide ((by_ : Int) * c' > 2 ^ 48)) = false := by simp; omega
          have hcells : ((Array.range (c'.toNat * sz)).map fun i => rz.cells[i % rz.cells.size]!) = (List.replicate c'.toNat rz.cells.toList).flatten.toArray := by
            have := zeroCells_list rz.cells c'.toNat
            rw [Builtin.zeroCells, l5] at this
            rw [l5]; apply Array.ext'; rw [this]
          have hr := g2.rep c'.toNat
          refine ⟨.slice (some ⟨X.w.heap.size, 0, none⟩) l'.toNat c'.toNat, .cells (List.replicate c'.toNat rz.cells.toList).flatten.toArray e, ?_, objR_cells hr (all_rep g3 _), ?_⟩
          · have hrun : (Instr.makeSlice t (.int k1 l') (.int k2 c')).run P X.w = .ok (.slice (some ⟨X.w.heap.size, 0, none⟩) l'.toNat c'.toNat) { X.w with heap := X.w.heap.push (.cells (List.replicate c'.toNat rz.cells.toList).flatten.toArray e) } := by
              simp only [Instr.makeSlice, Sem.run_bind, run_underlying hu0, Result.andThen_ok, asInt, asIntOf, Sem.run_pure, run_typeInfo hi, hby, wl, wc, htl]
              have h2 : ¬ ((l' < 0 || l' > c') = true) := by simp; omega
              simp only [Bool.false_or]
              rw [if_neg (by simpa using h2)]
              simp only [Sem.run_bind, run_askRoom, Result.andThen_ok, run_sizeOf (szT_of_info hi), hsz]
              by_cases hq : c'.toNat * sz = 0
              · have hc0 : c'.toNat = 0 := by
                  rcases Nat.mul_eq_zero.1 hq with q | q
                  · exact q
                  · omega
                have hr0 : ∀ f : Nat → Value, (Array.range 0).map f = #[] := fun f => Array.ext' (by simp)
                simp [hc0, newRow, hr0]
              · simp only [hq, if_false, Sem.run_bind, g1, Result.andThen_ok, Sem.run_pure, hcells]
                simp [newRow]
            simp [execOp, hrl, hrc, hrun]
          · refine .hsl _ _ _ _ _ _ _ _ _ rfl (by omega) (fun _ => rfl) (Nat.le_refl _) ?_
            have : (X.push id (.cells (List.replicate c'.toNat rz.cells.toList).flatten.toArray e)).L id = .live X.w.heap.size 0 := by simp [Cx.push]
            rw [this]
            refine ⟨Nat.le_refl _, fun _ => ⟨rfl, rfl, e, _, shape_new X.w _ e, ?_⟩⟩
            simp [l5]
        · cases hf
      · cases hf
    · cases hf
  · cases hf
end
end Go.Ns

/- Ns, part X: a statement whose order Go leaves open: the rule. -/
namespace Go.Ns

theorem wantV_congr {ops : Array Oper} {o : Oper} {σ σ' : Nat → V} (h : ∀ x ∈ o.looksAt ops, σ x = σ' x) : wantV ops σ o.guard = wantV ops σ' o.guard := by
  unfold wantV
  split
  · rfl
  · rename_i j want hg
    split
    · rename_i d hd
      have : d ∈ o.looksAt ops := by
        unfold Oper.looksAt
        refine List.mem_append_right _ ?_
        rw [hg]
        simp [hd]
      rw [h d this]
    · rfl

theorem ρV_congr {ops : Array Oper} {o : Oper} {σ σ' : Nat → V} (h : ∀ x ∈ o.looksAt ops, σ x = σ' x) : ∀ x ∈ o.op.operands, ρV σ x = ρV σ' x := by
  intro x hx
  cases x with
  | tmp t => exact h t (List.mem_append_left _ (List.mem_filterMap.2 ⟨.tmp t, by simpa using hx, rfl⟩))
  | _ => rfl

theorem frV_congr {P : Program} {o : Oper} {ρ ρ' : Operand → V} (h : ∀ x ∈ o.op.operands, ρ x = ρ' x) (id : Nat) : frV P o ρ id = frV P o ρ' id := by
  obtain ⟨dst, op, type, pos, after, guard⟩ := o
  cases op <;> simp only [Op.operands] at h <;> simp only [frV]
  case makeSlice t l c => rw [h l (by simp), h c (by simp)]

theorem valV_congr {P : Program} {o : Oper} {ρ ρ' : Operand → V} (h : ∀ x ∈ o.op.operands, ρ x = ρ' x) (H : Heap) : valV P o ρ H = valV P o ρ' H := by
  obtain ⟨dst, op, type, pos, after, guard⟩ := o
  have pairs : ∀ ps : Array (Nat × Operand), (∀ x ∈ ps.map (·.2), ρ x = ρ' x) → (ps.toList.map fun p => (p.1, ρ p.2)) = (ps.toList.map fun p => (p.1, ρ' p.2)) := fun ps hp =>
    List.map_congr_left fun p hm => by
      simp only [hp p.2 (Array.mem_map.2 ⟨p, by simpa using hm, rfl⟩)]
  cases op <;> simp only [Op.operands] at h <;> simp only [valV]
  case build t ps => rw [pairs ps fun x hx => h x (by simpa using hx)]
  case buildSlice t n ps => rw [pairs ps fun x hx => h x (by simpa using hx)]
  case makeFunc fn first captured =>
    cases fn <;> simp only
    rw [List.map_congr_left (l := captured.toList) fun x hx => h x (by simp at hx; simp [hx]), List.map_congr_left (l := first.toList) fun x hx => h x (by simp at hx; simp [hx])]
  case call c =>
    obtain ⟨callee, args, argTypes⟩ := c
    have hargs : args.toList.map ρ = args.toList.map ρ' := List.map_congr_left fun x hx => h x (by simp at hx; simp [Call.operands, hx])
    cases callee with
    | value f => rfl
    | invoke r m => rfl
    | builtin b => cases b <;> simp only [hargs]
  case slice t x lo hi mx => cases lo <;> cases hi <;> cases mx <;> simp_all
  case typeAssert x s t ok => cases ok <;> simp_all
  all_goals (first | rfl | (simp_all; done))

theorem valV_heapy {P : Program} {o : Oper} (ho : heapy o = false) (ρ : Operand → V) (H H' : Heap) : valV P o ρ H = valV P o ρ H' := by
  obtain ⟨dst, op, type, pos, after, guard⟩ := o
  cases op <;> simp only [heapy, Bool.true_eq_false] at ho
  case makeFunc fn _ _ => cases fn <;> rfl
  case typeAssert _ _ _ ok => cases ok <;> rfl
  all_goals rfl

theorem again_heapy {P : Program} {ops : Array Oper} {H : Heap} {e : Ent} (he : heapyAt ops e.i = false) (h : again P ops H e) (H' : Heap) : again P ops H' e := by
  unfold again at h ⊢
  unfold heapyAt at he
  split at h
  · exact h.elim
  · rename_i o ho
    simp only [ho] at he ⊢
    split at h
    · exact h.elim
    · exact h
    · rename_i hw
      split at h
      · rename_i hf; rw [if_pos hf]; trivial
      · rename_i hf
        rw [if_neg hf]
        split at h
        · rename_i id hid
          exfalso
          have := h.1
          unfold isFree at this
          unfold heapy at he
          split at this <;> simp_all
        · rename_i hid
          rw [valV_heapy he _ H' H]
          exact h

section
variable {P : Program} {base N : Nat} {ops : Array Oper} {D : List (List Nat)} {π : List Nat}

theorem topo_split : ∀ {A : List Nat} {i : Nat} {B seen : List Nat}, topo ops D seen (A ++ i :: B) = true →
    (∀ j ∈ edgesAt ops i, j ∈ A ∨ j ∈ seen) ∧ (∀ j, depOf D i j = true → j ∈ A ∨ j ∈ seen) ∧ i ∉ seen ∧ i ∉ A ∧ i < ops.size
  | [], i, B, seen, h => by
    simp only [List.nil_append, topo, Bool.and_eq_true, List.all_eq_true, Bool.not_eq_true', List.contains_eq_mem, decide_eq_true_eq, decide_eq_false_iff_not] at h
    obtain ⟨⟨⟨⟨h1, h2⟩, h3⟩, h4⟩, h5⟩ := h
    exact ⟨fun j hj => .inr (h1 j hj), fun j hj => .inr (h2 j (by simpa [depOf] using hj)), h3, by simp, h4⟩
  | a :: A, i, B, seen, h => by
    simp only [List.cons_append, topo, Bool.and_eq_true] at h
    obtain ⟨h1, h2, h3, h4, h5⟩ := topo_split h.2
    refine ⟨fun j hj => ?_, fun j hj => ?_, fun hi => h3 (List.mem_cons_of_mem _ hi), ?_, h5⟩
    · rcases h1 j hj with q | q
      · exact .inl (List.mem_cons_of_mem _ q)
      · rcases List.mem_cons.1 q with q | q
        · exact .inl (by rw [q]; exact List.mem_cons_self)
        · exact .inr q
    · rcases h2 j hj with q | q
      · exact .inl (List.mem_cons_of_mem _ q)
      · rcases List.mem_cons.1 q with q | q
        · exact .inl (by rw [q]; exact List.mem_cons_self)
        · exact .inr q
    · intro q
      rcases List.mem_cons.1 q with q | q
      · exact h3 (by rw [q]; exact List.mem_cons_self)
      · exact h4 q

theorem eager_split : ∀ {A : List Nat} {i : Nat} {B : List Nat}, eager ops D (A ++ i :: B) = true → effAt ops i = true → ∀ j ∈ B, depOf D j i = true
  | [], i, B, h, hi, j, hj => by
    simp only [List.nil_append, eager, Bool.and_eq_true, Bool.or_eq_true, Bool.not_eq_true', List.all_eq_true] at h
    rcases h.1 with q | q
    · rw [hi] at q; cases q
    · exact q j hj
  | a :: A, i, B, h, hi, j, hj => by
    simp only [List.cons_append, eager, Bool.and_eq_true] at h
    exact eager_split h.2 hi j hj

structure DrawOk (ops : Array Oper) (D : List (List Nat)) (π : List Nat) : Prop where
  len : π.length ≤ ops.size
  mem : ∀ i, i < ops.size → i ∈ π
  lt : ∀ A i B, π = A ++ i :: B → i < ops.size
  nd : ∀ A i B, π = A ++ i :: B → i ∉ A
  ed : ∀ A i B, π = A ++ i :: B → ∀ j ∈ edgesAt ops i, j ∈ A
  dp : ∀ A i B, π = A ++ i :: B → ∀ j, depOf D i j = true → j ∈ A
  eg : ∀ A i B, π = A ++ i :: B → effAt ops i = true → ∀ j ∈ B, depOf D j i = true
  uq : ∀ i j x, i < ops.size → j < ops.size → i ≠ j → dstAt ops i = some x → dstAt ops j ≠ some x
  rd : ∀ i o j x, ops[i]? = some o → i ≠ j → dstAt ops j = some x → x ∈ o.looksAt ops → depOf D i j = true ∨ depOf D j i = true
  js : ∀ i j, i < ops.size → depOf D i j = true → j ∈ edgesAt ops i ∨ ∃ k ∈ edgesAt ops i, depOf D k j = true

theorem drawOk_spec (h : drawOk ops D π = true) : DrawOk ops D π := by
  simp only [drawOk, Bool.and_eq_true, List.all_eq_true, List.mem_range, decide_eq_true_eq] at h
  obtain ⟨⟨⟨⟨⟨h0, h1⟩, h2⟩, h3⟩, h4⟩, h5⟩ := h
  simp only [slotsOk, List.all_eq_true, List.mem_range] at h4
  have dlt : ∀ {j : Nat} {x : Tmp}, dstAt ops j = some x → ∃ q, ops[j]? = some q ∧ q.dst = some x ∧ j < ops.size := by
    intro j x hj
    unfold dstAt at hj
    split at hj
    · rename_i q hq; exact ⟨q, hq, hj, (Array.getElem?_eq_some_iff.1 hq).1⟩
    · cases hj
  refine ⟨h0, fun i hi => by simpa using h1 i hi, ?_, ?_, ?_, ?_, ?_, ?_, ?_, ?_⟩
  · rintro A i B rfl; exact (topo_split h2).2.2.2.2
  · rintro A i B rfl; exact (topo_split h2).2.2.2.1
  · rintro A i B rfl j hj; exact ((topo_split h2).1 j hj).resolve_right (by simp)
  · rintro A i B rfl j hj; exact ((topo_split h2).2.1 j hj).resolve_right (by simp)
  · rintro A i B rfl hi; exact eager_split h3 hi
  · intro i j x hi hj hne h6 h7
    obtain ⟨o, ho, hod, _⟩ := dlt h6
    obtain ⟨q, hq, hqd, _⟩ := dlt h7
    have := h4 i hi j hj
    simp [hne, ho, hq, hqd, hod] at this
  · intro i o j x ho hne h6 h7
    obtain ⟨q, hq, hqd, hj⟩ := dlt h6
    have := h4 i (Array.getElem?_eq_some_iff.1 ho).1 j hj
    simp [hne, ho, hq, hqd, h7] at this
    rcases this.2 with q | q
    · exact .inl q
    · exact .inr q
  · intro i j hi hij
    have := h5 i hi j (by simpa [depOf] using hij)
    simpa using this

/-! ### The invariant -/
def on (listed : Array Bool) (i : Nat) : Bool := listed.getD i false

theorem on_set {listed : Array Bool} {i j : Nat} (hi : i < listed.size) : on (listed.setIfInBounds i true) j = (on listed j || decide (j = i)) := by
  unfold on
  simp only [Array.getD_eq_getD_getElem?, Array.getElem?_setIfInBounds]
  by_cases h : i = j
  · subst h; simp [hi]
  · rw [if_neg h]; simp [Ne.symm h]

def wk (listed : Array Bool) (rc : List Ent) : List Ent := rc.filter fun e => on listed e.i

structure DInv (P : Program) (base N : Nat) (ops : Array Oper) (D : List (List Nat)) (π : List Nat) (K : Option V → S → Prop) (s0 : S) (X0 : Cx) (listed : Array Bool) (a : Act) (X : Cx) (H : Heap) (rc : List Ent) (rest : List Nat) : Prop where
  hr : HR X H
  size : listed.size = ops.size
  n : a.tmps.size = N
  spl : rc.map Ent.i ++ rest = π
  wf : ∀ pre e post, rc = pre ++ e :: post → e.σ = sig ops s0.σ pre
  un : ∀ i ∈ rest, on listed i = false
  eff : ∀ e ∈ rc, effAt ops e.i = true → on listed e.i = true
  clos : ∀ i, on listed i = true → ∀ j, depOf D i j = true → on listed j = true
  ag : ∀ e ∈ rc, on listed e.i = false → again P ops H e
  dk : ∀ e ∈ rc, dstOk N (dstAt ops e.i)
  fr : ∀ e ∈ rc, on listed e.i = false → ∀ id, e.id = some id → X.L id = .pend ∧ base ≤ id
  frn : ∀ e ∈ rc, ∀ id, e.id = some id → id < H.n
  dist : ∀ e ∈ rc, ∀ e' ∈ rc, ∀ id, e.id = some id → e'.id = some id → e.i = e'.i
  tm : ∀ t, R X (sig ops s0.σ (wk listed rc) t) (a.tmps.getD t undef)
  ds : DR X s0.D a.defers
  ext : Ext base X0 X
  low : Low base s0.H H
  lb : base ≤ H.n
  w : drawW P base N ops D K rest ⟨sig ops s0.σ rc, H, s0.D⟩ rc

variable {K : Option V → S → Prop} {s0 : S} {X0 X : Cx} {listed : Array Bool} {a : Act} {H : Heap} {rc : List Ent} {rest : List Nat}

theorem wf_append {ops : Array Oper} {σ : Nat → V} {rc : List Ent} {e : Ent} (h : ∀ pre e post, rc = pre ++ e :: post → e.σ = sig ops σ pre) (he : e.σ = sig ops σ rc) :
    ∀ pre e' post, rc ++ [e] = pre ++ e' :: post → e'.σ = sig ops σ pre := by
  intro pre e' post hq
  rcases List.eq_nil_or_concat post with hp | ⟨post', x, hp⟩
  · subst hp
    have := List.append_inj' hq rfl
    obtain ⟨rfl, h2⟩ := this
    cases h2
    exact he
  · subst hp
    have hq' : rc ++ [e] = (pre ++ e' :: post') ++ [x] := by rw [hq]; simp
    obtain ⟨h1, _⟩ := List.append_inj' hq' rfl
    exact h pre e' post' h1

theorem wk_append (listed : Array Bool) (A B : List Ent) : wk listed (A ++ B) = wk listed A ++ wk listed B := by simp [wk]

/-- What is not an effect is found, not run. -/
theorem DInv.advance {i : Nat} (h : DInv P base N ops D π K s0 X0 listed a X H rc (i :: rest)) (hi : effAt ops i = false) :
    ∃ e H', e.i = i ∧ DInv P base N ops D π K s0 X0 listed a X H' (rc ++ [e]) rest := by
  have hw := h.w
  simp only [drawW] at hw
  unfold effAt at hi
  have hun := h.un i List.mem_cons_self
  split at hw
  · exact hw.elim
  · rename_i o ho
    rw [ho] at hi
    simp only at hi
    obtain ⟨hdk, hw⟩ := hw
    have hdst : dstAt ops i = o.dst := by simp [dstAt, ho]
    have common : ∀ (e : Ent) (H' : Heap), e.i = i → e.σ = sig ops s0.σ rc → HR X H' → H.n ≤ H'.n → Low base s0.H H' → (∀ e' ∈ rc, on listed e'.i = false → again P ops H' e') → again P ops H' e →
        (∀ id, e.id = some id → H.n ≤ id ∧ id < H'.n) → drawW P base N ops D K rest ⟨upd (sig ops s0.σ rc) o.dst e.v, H', s0.D⟩ (rc ++ [e]) →
        DInv P base N ops D π K s0 X0 listed a X H' (rc ++ [e]) rest := by
      intro e H' hei hes hr hn hlow hold hnew hid hk
      refine ⟨hr, h.size, h.n, by rw [← h.spl]; simp [hei], wf_append h.wf hes, fun j hj => h.un j (List.mem_cons_of_mem _ hj), ?_, h.clos, ?_, ?_, ?_, ?_, ?_, ?_, h.ds, h.ext, hlow, Nat.le_trans h.lb hn, ?_⟩
      · intro e' he' hef
        rcases List.mem_append.1 he' with q | q
        · exact h.eff e' q hef
        · rw [List.mem_singleton.1 q, hei] at hef
          simp [effAt, ho, hi] at hef
      · intro e' he' hl
        rcases List.mem_append.1 he' with q | q
        · exact hold e' q hl
        · rw [List.mem_singleton.1 q]; exact hnew
      · intro e' he'
        rcases List.mem_append.1 he' with q | q
        · exact h.dk e' q
        · rw [List.mem_singleton.1 q, hei, hdst]; exact hdk
      · intro e' he' hl id hq
        rcases List.mem_append.1 he' with q | q
        · exact h.fr e' q hl id hq
        · rw [List.mem_singleton.1 q] at hq
          obtain ⟨h1, h2⟩ := hid id hq
          exact ⟨h.hr.fresh id h1, Nat.le_trans h.lb h1⟩
      · intro e' he' id hq
        rcases List.mem_append.1 he' with q | q
        · exact Nat.lt_of_lt_of_le (h.frn e' q id hq) hn
        · rw [List.mem_singleton.1 q] at hq
          exact (hid id hq).2
      · intro e1 h1 e2 h2 id q1 q2
        rcases List.mem_append.1 h1 with p1 | p1 <;> rcases List.mem_append.1 h2 with p2 | p2
        · exact h.dist e1 p1 e2 p2 id q1 q2
        · rw [List.mem_singleton.1 p2] at q2
          have := h.frn e1 p1 id q1
          have := (hid id q2).1
          omega
        · rw [List.mem_singleton.1 p1] at q1
          have := h.frn e2 p2 id q2
          have := (hid id q1).1
          omega
        · rw [List.mem_singleton.1 p1, List.mem_singleton.1 p2]
      · have : wk listed (rc ++ [e]) = wk listed rc := by
          rw [wk_append]
          simp [wk, hei, hun]
        rw [this]
        exact h.tm
      · rw [sig_append]
        simpa [sig, hei, hdst] using hk
    split at hw
    · exact hw.elim
    · rename_i hwant
      exact ⟨_, H, rfl, common ⟨i, sig ops s0.σ rc, .tup [], none⟩ H rfl rfl h.hr (Nat.le_refl _) h.low h.ag (by simp [again, ho, hwant]) (by simp) hw⟩
    · rename_i hwant
      rw [if_neg (by rw [hi]; simp)] at hw
      split at hw
      · rename_i hfree
        split at hw
        · rename_i v ob hv
          obtain ⟨hag, hw⟩ := hw
          refine ⟨_, H.new ob, rfl, common ⟨i, sig ops s0.σ rc, v, some H.n⟩ (H.new ob) rfl rfl ?_ (by simp [Heap.new]) (h.low.trans (low_new h.lb ob)) ?_ ?_ ?_ hw⟩
          · have hr := h.hr
            refine ⟨fun id hid => hr.fresh id (by simp [Heap.new] at hid; omega), fun id b g hl => ?_, fun id hl => ?_, hr.inj, hr.fbs⟩
            · obtain ⟨o', ob', h1, h2, h3, h4⟩ := hr.live id b g hl
              refine ⟨o', ob', ?_, h2, h3, h4⟩
              have : id ≠ H.n := fun e => by rw [e, hr.fresh H.n (Nat.le_refl _)] at hl; cases hl
              simp [Heap.new, this, h1]
            · have : id ≠ H.n := fun e => by rw [e, hr.fresh H.n (Nat.le_refl _)] at hl; cases hl
              simp [Heap.new, this, hr.dead id hl]
          · intro e' he' hl
            by_cases hh : heapyAt ops e'.i = true
            · exact hag e' (by simp [he', hh])
            · exact again_heapy (by simpa using hh) (h.ag e' he' hl) _
          · simp [again, ho, hwant, hi, hfree, hv, Heap.new]
          · intro id q
            cases q
            simp [Heap.new]
        · exact hw.elim
      · split at hw
        · rename_i v hv
          exact ⟨_, H, rfl, common ⟨i, sig ops s0.σ rc, v, none⟩ H rfl rfl h.hr (Nat.le_refl _) h.low h.ag (by simp [again, ho, hwant, hi, hv]) (by simp) hw⟩
        · exact hw.elim

end
end Go.Ns

/- Ns, part Y: a statement whose order Go leaves open: the rule, proved. -/
namespace Go.Ns
section
variable {P : Program} {base N : Nat} {ops : Array Oper} {D : List (List Nat)} {π : List Nat}
variable {K : Option V → S → Prop} {s0 : S} {X0 X : Cx} {listed : Array Bool} {a : Act} {H : Heap} {rc : List Ent} {rest : List Nat}

theorem dstAt_lt {j : Nat} {x : Tmp} (h : dstAt ops j = some x) : j < ops.size := by
  unfold dstAt at h
  split at h
  · rename_i q hq; exact (Array.getElem?_eq_some_iff.1 hq).1
  · cases h

theorem wk_mem {listed : Array Bool} {l : List Ent} {e : Ent} (h : e ∈ wk listed l) : e ∈ l ∧ on listed e.i = true := by
  simpa [wk] using h

/-- What an operation looks at stands in its slots when its turn comes. -/
theorem agree (hok : DrawOk ops D π) (h : DInv P base N ops D π K s0 X0 listed a X H rc rest) {i : Nat} {o : Oper} (ho : ops[i]? = some o) (hi : on listed i = false) (hd : ∀ j, depOf D i j = true → on listed j = true)
    {pre post : List Ent} {tail : List Nat} (hrc : rc = pre ++ post) (hπ : pre.map Ent.i ++ i :: tail = π) (hpost : ∀ e ∈ post, e.i = i ∨ e.i ∈ tail) :
    ∀ x ∈ o.looksAt ops, sig ops s0.σ (wk listed rc) x = sig ops s0.σ pre x := by
  intro x hx
  have before : ∀ j, depOf D i j = true → j ∈ pre.map Ent.i := hok.dp _ _ _ hπ.symm
  have after : ∀ e ∈ pre, depOf D e.i i = false := by
    intro e he
    cases hq : depOf D e.i i with
    | false => rfl
    | true =>
      exfalso
      obtain ⟨A, B, hAB⟩ := List.append_of_mem he
      have h1 : i ∈ A.map Ent.i := hok.dp (A.map Ent.i) e.i (B.map Ent.i ++ i :: tail) (by rw [← hπ, hAB]; simp) i hq
      exact hok.nd _ _ _ hπ.symm (by rw [hAB]; simp only [List.map_append, List.mem_append]; exact .inl h1)
  by_cases hex : ∃ e ∈ pre, dstAt ops e.i = some x
  · obtain ⟨e, he, hde⟩ := hex
    have hne : i ≠ e.i := fun q => hok.nd _ _ _ hπ.symm (List.mem_map.2 ⟨e, he, q.symm⟩)
    have hl : on listed e.i = true := by
      rcases hok.rd i o e.i x ho hne hde hx with q | q
      · exact hd _ q
      · rw [after e he] at q; cases q
    obtain ⟨A, B, hAB⟩ := List.append_of_mem he
    have others : ∀ e' ∈ B ++ post, dstAt ops e'.i ≠ some x := by
      intro e' he' hq
      refine hok.uq e.i e'.i x (dstAt_lt hde) (dstAt_lt hq) ?_ hde hq
      intro heq
      rcases List.mem_append.1 he' with hB | hP
      · obtain ⟨B1, B2, hB12⟩ := List.append_of_mem hB
        refine hok.nd ((A ++ e :: B1).map Ent.i) e'.i (B2.map Ent.i ++ i :: tail) (by rw [← hπ, hAB, hB12]; simp) ?_
        rw [← heq]; simp
      · rcases hpost e' hP with q | q
        · exact hne (by rw [heq, q])
        · obtain ⟨T1, T2, hT⟩ := List.append_of_mem q
          refine hok.nd (pre.map Ent.i ++ i :: T1) e'.i T2 (by rw [← hπ, hT]; simp) ?_
          rw [← heq]
          simp only [List.mem_append, List.mem_map]
          exact .inl ⟨e, he, rfl⟩
    have h1 : wk listed rc = wk listed A ++ e :: wk listed (B ++ post) := by
      rw [hrc, hAB]
      simp [wk, hl]
    rw [h1, sig_at hde fun e' he' => others e' (wk_mem he').1, hAB, sig_at hde fun e' he' => others e' (List.mem_append_left _ he')]
  · have hno : ∀ e ∈ pre, dstAt ops e.i ≠ some x := fun e he hq => hex ⟨e, he, hq⟩
    rw [sig_ne hno]
    refine sig_ne fun e he hq => ?_
    obtain ⟨hm, hl⟩ := wk_mem he
    rw [hrc] at hm
    rcases List.mem_append.1 hm with q | q
    · exact hno e q hq
    · have hne : i ≠ e.i := fun q' => by rw [← q', hi] at hl; cases hl
      rcases hok.rd i o e.i x ho hne hq hx with w | w
      · have hb := before _ w
        rcases hpost e q with q' | q'
        · exact hne q'.symm
        · obtain ⟨T1, T2, hT⟩ := List.append_of_mem q'
          exact hok.nd (pre.map Ent.i ++ i :: T1) e.i T2 (by rw [← hπ, hT]; simp) (List.mem_append_left _ hb)
      · rw [h.clos _ hl _ w] at hi; cases hi

/-- What is ready has been found, or is the next effect. -/
theorem reach (hok : DrawOk ops D π) {i : Nat} (hd : ∀ j, depOf D i j = true → on listed j = true) : ∀ {rest : List Nat} {H : Heap} {rc : List Ent}, DInv P base N ops D π K s0 X0 listed a X H rc rest → i ∈ rest →
    ∃ H' rc' rest', DInv P base N ops D π K s0 X0 listed a X H' rc' rest' ∧ ((∃ r, rest' = i :: r ∧ effAt ops i = true) ∨ ∃ e ∈ rc', e.i = i)
  | i0 :: r, H, rc, h, hi => by
    by_cases he : effAt ops i0 = true
    · by_cases hq : i0 = i
      · subst hq; exact ⟨H, rc, _, h, .inl ⟨r, rfl, he⟩⟩
      · exfalso
        have hir : i ∈ r := by
          rcases List.mem_cons.1 hi with q | q
          · exact absurd q.symm hq
          · exact q
        have := hd _ (hok.eg _ _ _ h.spl.symm he i hir)
        rw [h.un i0 List.mem_cons_self] at this
        cases this
    · obtain ⟨e, H', h1, h2⟩ := h.advance (by simpa using he)
      by_cases hq : i0 = i
      · exact ⟨H', _, r, h2, .inr ⟨e, List.mem_append_right _ List.mem_cons_self, by rw [h1, hq]⟩⟩
      · have hir : i ∈ r := by
          rcases List.mem_cons.1 hi with q | q
          · exact absurd q.symm hq
          · exact q
        exact reach hok hd h2 hir

theorem DInv.rel (h : DInv P base N ops D π K s0 X0 listed a X H rc rest) : Rel base N X ⟨sig ops s0.σ (wk listed rc), H, s0.D⟩ a :=
  ⟨h.hr, h.n, h.tm, h.ds, h.lb⟩

theorem wk_same {listed : Array Bool} {i : Nat} {l : List Ent} (hs : i < listed.size) (h : ∀ e ∈ l, e.i ≠ i) : wk (listed.setIfInBounds i true) l = wk listed l := by
  unfold wk
  refine List.filter_congr fun e he => ?_
  rw [on_set hs]
  simp [h e he]

/-- Something found has been run. -/
theorem DInv.ran (hok : DrawOk ops D π) (h : DInv P base N ops D π K s0 X0 listed a X H rc rest) {pre post : List Ent} {e : Ent} (hrc : rc = pre ++ e :: post) (hi : e.i < ops.size) (hun : on listed e.i = false)
    (hd : ∀ j, depOf D e.i j = true → on listed j = true) {X' : Cx} (hr : HR X' H) (hx : Ext base X X') (hp : ∀ id, X.L id = .pend → id < H.n → e.id ≠ some id → X'.L id = .pend) {rv : Value} (hv : R X' e.v rv) :
    DInv P base N ops D π K s0 X0 (listed.setIfInBounds e.i true) (a.put (dstAt ops e.i) rv) X' H rc rest := by
  have hs : e.i < listed.size := by rw [h.size]; exact hi
  have hπ : pre.map Ent.i ++ e.i :: (post.map Ent.i ++ rest) = π := by rw [← h.spl, hrc]; simp
  have hpre : ∀ e' ∈ pre, e'.i ≠ e.i := fun e' he' q => hok.nd _ _ _ hπ.symm (List.mem_map.2 ⟨e', he', q⟩)
  have hpost : ∀ e' ∈ post, e'.i ≠ e.i := by
    intro e' he' q
    obtain ⟨A, B, hAB⟩ := List.append_of_mem he'
    refine hok.nd (pre.map Ent.i ++ e.i :: A.map Ent.i) e'.i (B.map Ent.i ++ rest) (by rw [← hπ, hAB]; simp) ?_
    rw [q]; simp
  have hmem : e ∈ rc := by rw [hrc]; simp
  have hon : ∀ j, on (listed.setIfInBounds e.i true) j = false → on listed j = false ∧ j ≠ e.i := by
    intro j hj
    rw [on_set hs] at hj
    simpa using hj
  have hwk : wk (listed.setIfInBounds e.i true) rc = wk listed pre ++ e :: wk listed post := by
    rw [hrc, wk_append, wk_same hs hpre]
    congr 1
    have : wk (listed.setIfInBounds e.i true) (e :: post) = e :: wk (listed.setIfInBounds e.i true) post := by
      unfold wk
      rw [List.filter_cons, if_pos (by rw [on_set hs]; simp)]
    rw [this, wk_same hs hpost]
  have hwk0 : wk listed rc = wk listed pre ++ wk listed post := by
    rw [hrc, wk_append]
    congr 1
    unfold wk
    rw [List.filter_cons, if_neg (by rw [hun]; simp)]
  have hrel := h.rel.step (base := base) (X' := X') (H' := H) hr hx (.refl _ _)
  have hput := hrel.put (h.dk e hmem) (v := e.v) (rv := rv) hv
  refine ⟨hr, by simp [h.size], hput.n, h.spl, h.wf, ?_, ?_, ?_, ?_, h.dk, ?_, h.frn, h.dist, ?_, hput.ds, h.ext.trans hx, h.low, h.lb, h.w⟩
  · intro j hj
    rw [on_set hs, h.un j hj]
    simp only [Bool.false_or, decide_eq_false_iff_not]
    intro q
    obtain ⟨A, B, hAB⟩ := List.append_of_mem hj
    refine hok.nd (rc.map Ent.i ++ A) j B (by rw [← h.spl, hAB]; simp) ?_
    rw [q]
    simp only [List.mem_append, List.mem_map]
    exact .inl ⟨e, hmem, rfl⟩
  · intro e' he' hef
    rw [on_set hs, h.eff e' he' hef]; rfl
  · intro k hk j hj
    rw [on_set hs] at hk ⊢
    simp only [Bool.or_eq_true, decide_eq_true_eq] at hk ⊢
    rcases hk with q | q
    · exact .inl (h.clos k q j hj)
    · subst q; exact .inl (hd j hj)
  · intro e' he' hl
    exact h.ag e' he' (hon _ hl).1
  · intro e' he' hl id hq
    obtain ⟨h1, h2⟩ := hon _ hl
    obtain ⟨h3, h4⟩ := h.fr e' he' h1 id hq
    exact ⟨hp id h3 (h.frn e' he' id hq) (fun q => h2 (h.dist e' he' e hmem id hq q)), h4⟩
  · rw [hwk, sig_ins (fun e' he' t ht hq => hok.uq e.i e'.i t hi (dstAt_lt hq) (Ne.symm (hpost e' (wk_mem he').1)) ht hq), ← hwk0]
    exact hput.tm

/-- An effect has been run. -/
theorem DInv.struck (hok : DrawOk ops D π) {i : Nat} (h : DInv P base N ops D π K s0 X0 listed a X H rc (i :: rest)) (hi : i < ops.size)
    (hd : ∀ j, depOf D i j = true → on listed j = true) {X' : Cx} {H' : Heap} (hr : HR X' H') (hx : Ext base X X') (hlow : Low base H H') (hp : ∀ id, X.L id = .pend → id < H.n → (∃ e ∈ rc, on listed e.i = false ∧ e.id = some id) → X'.L id = .pend) {v : V} {rv : Value} (hv : R X' v rv)
    (hdk : dstOk N (dstAt ops i)) (hag : ∀ e ∈ rc, on listed e.i = false → again P ops H' e)
    (hw : drawW P base N ops D K rest ⟨upd (sig ops s0.σ rc) (dstAt ops i) v, H', s0.D⟩ (rc ++ [⟨i, sig ops s0.σ rc, v, none⟩])) :
    DInv P base N ops D π K s0 X0 (listed.setIfInBounds i true) (a.put (dstAt ops i) rv) X' H' (rc ++ [⟨i, sig ops s0.σ rc, v, none⟩]) rest := by
  have hs : i < listed.size := by rw [h.size]; exact hi
  have hun := h.un i List.mem_cons_self
  have hπ : rc.map Ent.i ++ i :: rest = π := h.spl
  have hpre : ∀ e' ∈ rc, e'.i ≠ i := fun e' he' q => hok.nd _ _ _ hπ.symm (List.mem_map.2 ⟨e', he', q⟩)
  have hon : ∀ j, on (listed.setIfInBounds i true) j = false → on listed j = false ∧ j ≠ i := by
    intro j hj
    rw [on_set hs] at hj
    simpa using hj
  have hwk : wk (listed.setIfInBounds i true) (rc ++ [⟨i, sig ops s0.σ rc, v, none⟩]) = wk listed rc ++ [⟨i, sig ops s0.σ rc, v, none⟩] := by
    rw [wk_append, wk_same hs hpre]
    congr 1
    unfold wk
    rw [List.filter_cons, if_pos (by rw [on_set hs]; simp)]
    rfl
  have hrel := h.rel.step (base := base) (X' := X') (H' := H') hr hx hlow
  have hput := hrel.put hdk (v := v) (rv := rv) hv
  refine ⟨hr, by simp [h.size], hput.n, by rw [← hπ]; simp, wf_append h.wf rfl, ?_, ?_, ?_, ?_, ?_, ?_, ?_, ?_, ?_, hput.ds, h.ext.trans hx, h.low.trans hlow, Nat.le_trans h.lb hlow.2, ?_⟩
  · intro j hj
    rw [on_set hs, h.un j (List.mem_cons_of_mem _ hj)]
    simp only [Bool.false_or, decide_eq_false_iff_not]
    intro q
    obtain ⟨A, B, hAB⟩ := List.append_of_mem hj
    refine hok.nd (rc.map Ent.i ++ i :: A) j B (by rw [← hπ, hAB]; simp) ?_
    rw [q]; simp
  · intro e' he' hef
    rw [on_set hs]
    rcases List.mem_append.1 he' with q | q
    · rw [h.eff e' q hef]; rfl
    · rw [List.mem_singleton.1 q]; simp
  · intro k hk j hj
    rw [on_set hs] at hk ⊢
    simp only [Bool.or_eq_true, decide_eq_true_eq] at hk ⊢
    rcases hk with q | q
    · exact .inl (h.clos k q j hj)
    · subst q; exact .inl (hd j hj)
  · intro e' he' hl
    obtain ⟨h1, h2⟩ := hon _ hl
    rcases List.mem_append.1 he' with q | q
    · exact hag e' q h1
    · rw [List.mem_singleton.1 q] at h2; exact absurd rfl h2
  · intro e' he'
    rcases List.mem_append.1 he' with q | q
    · exact h.dk e' q
    · rw [List.mem_singleton.1 q]; exact hdk
  · intro e' he' hl id hq
    obtain ⟨h1, h2⟩ := hon _ hl
    rcases List.mem_append.1 he' with q | q
    · obtain ⟨h3, h4⟩ := h.fr e' q h1 id hq
      exact ⟨hp id h3 (h.frn e' q id hq) ⟨e', q, h1, hq⟩, h4⟩
    · rw [List.mem_singleton.1 q] at hq; cases hq
  · intro e' he' id hq
    rcases List.mem_append.1 he' with q | q
    · exact Nat.lt_of_lt_of_le (h.frn e' q id hq) hlow.2
    · rw [List.mem_singleton.1 q] at hq; cases hq
  · intro e1 h1 e2 h2 id q1 q2
    rcases List.mem_append.1 h1 with p1 | p1 <;> rcases List.mem_append.1 h2 with p2 | p2
    · exact h.dist e1 p1 e2 p2 id q1 q2
    · rw [List.mem_singleton.1 p2] at q2; cases q2
    · rw [List.mem_singleton.1 p1] at q1; cases q1
    · rw [List.mem_singleton.1 p1] at q1; cases q1
  · rw [hwk, sig_append]
    exact hput.tm
  · rw [sig_append]
    exact hw

theorem countP_lt {p q : Nat → Bool} {i : Nat} : ∀ {l : List Nat}, (∀ x, q x = true → p x = true) → i ∈ l → p i = true → q i = false → l.countP q < l.countP p
  | x :: l, h, hi, hp, hq => by
    have hle : l.countP q ≤ l.countP p := List.countP_mono_left fun x _ => h x
    rw [List.countP_cons, List.countP_cons]
    rcases List.mem_cons.1 hi with e | e
    · subst e
      rw [if_pos hp, if_neg (by rw [hq]; simp)]
      omega
    · have := countP_lt (l := l) h e hp hq
      by_cases hx : q x = true
      · rw [if_pos hx, if_pos (h x hx)]; omega
      · rw [if_neg hx]
        split <;> omega

theorem ready_spec {i : Nat} (hs : listed.size = ops.size) (h : i ∈ Region.ready .any ops listed) : ∃ o, ops[i]? = some o ∧ i < ops.size ∧ on listed i = false ∧ ∀ j ∈ edges o, on listed j = true := by
  simp only [Region.ready, List.mem_filter, List.mem_range, Bool.and_eq_true, Bool.not_eq_true'] at h
  obtain ⟨h1, h2, h3⟩ := h
  refine ⟨ops[i], by simp [h1], h1, ?_, ?_⟩
  · unfold on
    have : i < listed.size := by omega
    simpa [this] using h2
  · simp only [h1, getElem?_pos, Option.map_some, Option.getD_some, Array.all_eq_true_iff_forall_mem] at h3
    intro j hj
    simp only [edges, List.mem_map, List.mem_filter] at hj
    obtain ⟨e, ⟨he, hb⟩, rfl⟩ := hj
    have := h3 e (by simpa using he)
    simpa [hb, on] using this

theorem ready_of {i : Nat} {o : Oper} (hs : listed.size = ops.size) (ho : ops[i]? = some o) (hi : on listed i = false) (he : ∀ j ∈ edges o, on listed j = true) : i ∈ Region.ready .any ops listed := by
  have h1 := (Array.getElem?_eq_some_iff.1 ho).1
  simp only [Region.ready, List.mem_filter, List.mem_range, Bool.and_eq_true, Bool.not_eq_true']
  refine ⟨h1, ?_, ?_⟩
  · have : i < listed.size := by omega
    unfold on at hi
    simpa [this] using hi
  · simp only [ho, Option.map_some, Option.getD_some, Array.all_eq_true_iff_forall_mem]
    intro e hm
    by_cases hb : Region.binds .any e = true
    · have := he e.on (by simp only [edges, List.mem_map, List.mem_filter]; exact ⟨e, ⟨by simpa using hm, hb⟩, rfl⟩)
      simp [on] at this
      simp [this]
    · simp [hb]

/-- If nothing is ready, all has been run. -/
theorem all_run (hok : DrawOk ops D π) (hs : listed.size = ops.size) (h : Region.ready .any ops listed = []) : ∀ i ∈ π, on listed i = true := by
  have key : ∀ (B A : List Nat), π = A ++ B → (∀ j ∈ A, on listed j = true) → ∀ j ∈ B, on listed j = true := by
    intro B
    induction B with
    | nil => intro A _ _ j hj; cases hj
    | cons i B ih =>
      intro A hA hl
      have hi : on listed i = true := by
        cases hq : on listed i with
        | true => rfl
        | false =>
          exfalso
          have hlt := hok.lt A i B hA
          have := ready_of (o := ops[i]) hs (by simp [hlt]) hq (fun j hj => hl j (hok.ed A i B hA j (by simp [edgesAt, hlt]; exact hj)))
          rw [h] at this
          cases this
      intro j hj
      rcases List.mem_cons.1 hj with q | q
      · rw [q]; exact hi
      · exact ih (A ++ [i]) (by rw [hA]; simp) (fun k hk => by
          rcases List.mem_append.1 hk with q' | q'
          · exact hl k q'
          · rw [List.mem_singleton.1 q']; exact hi) j q
  exact key π [] rfl (by simp)

end
end Go.Ns

/- Ns, part Z: a statement whose order Go leaves open: the rule itself. -/
namespace Go.Ns
section
variable {P : Program} {base N : Nat} {ops : Array Oper} {D : List (List Nat)} {π : List Nat}
variable {K : Option V → S → Prop} {s0 : S} {X0 X : Cx} {listed : Array Bool} {a : Act} {H : Heap} {rc : List Ent} {rest : List Nat}

theorem opW_congr {o : Oper} {ρ ρ' : Operand → V} (h : ∀ x ∈ o.op.operands, ρ x = ρ' x) {H : Heap} {KV : V → Heap → Prop} {KD : FuncId → List V → Prop} {KP : V → Heap → Prop} : opW P base o ρ H KV KD KP = opW P base o ρ' H KV KD KP := by
  obtain ⟨dst, op, type, pos, after, guard⟩ := o
  have pairs : ∀ ps : Array (Nat × Operand), (∀ x ∈ ps.map (·.2), ρ x = ρ' x) → (ps.toList.map fun p => (p.1, ρ p.2)) = (ps.toList.map fun p => (p.1, ρ' p.2)) := fun ps hp =>
    List.map_congr_left fun p hm => by
      simp only [hp p.2 (Array.mem_map.2 ⟨p, by simpa using hm, rfl⟩)]
  cases op <;> simp only [Op.operands] at h <;> simp only [opW]
  case build t ps => rw [pairs ps fun x hx => h x (by simpa using hx)]
  case buildSlice t n ps => rw [pairs ps fun x hx => h x (by simpa using hx)]
  case makeFunc fn first captured =>
    cases fn <;> simp only
    rw [List.map_congr_left (l := captured.toList) fun x hx => h x (by simp at hx; simp [hx]), List.map_congr_left (l := first.toList) fun x hx => h x (by simp at hx; simp [hx])]
  case call c =>
    obtain ⟨callee, args, argTypes⟩ := c
    have hargs : args.toList.map ρ = args.toList.map ρ' := List.map_congr_left fun x hx => h x (by simp at hx; simp [Call.operands, hx])
    cases callee with
    | value f => have hf := h f (by simp [Call.operands]); simp only [hargs, hf]
    | invoke r m => simp only
    | builtin b => simp only [hargs]
  case defer c =>
    obtain ⟨callee, args, argTypes⟩ := c
    cases callee with
    | value f => have hf := h f (by simp [Call.operands]); simp only [hf]
    | invoke r m => simp only
    | builtin b => simp only
  case slice t x lo hi mx => cases lo <;> cases hi <;> cases mx <;> simp_all
  case typeAssert x s t ok => cases ok <;> simp_all
  case makeMap t r => cases r <;> simp_all
  case next it s => cases s <;> simp_all
  all_goals (first | rfl | (simp_all; done))

/-- One step: whatever is ready may be run. -/
theorem draw_step (hok : DrawOk ops D π) (hN : ∀ (j : Nat) (o' : Oper) (d : Tmp), ops[j]? = some o' → o'.dst = some d → d < N) (h : DInv P base N ops D π K s0 X0 listed a X H rc rest) {i : Nat} (hi : i ∈ Region.ready .any ops listed)
    {Q : Exit → Act → World → Prop} {next : Act → World → Prop}
    (hpan : ∀ v X' s' rv, Rel base N X' s' a → Ext base X0 X' → Low base s0.H s'.H → R X' v rv → K (some v) s' → Q (.panic [{ v := rv, recovered := false }]) a X'.w)
    (hnext : ∀ a' X' H' rc' rest', DInv P base N ops D π K s0 X0 (listed.setIfInBounds i true) a' X' H' rc' rest' → next a' X'.w) : wpOp P ops Q i next a X.w := by
  obtain ⟨o, ho, hlt, hun, hed⟩ := ready_spec h.size hi
  have hd : ∀ j, depOf D i j = true → on listed j = true := by
    intro j hj
    rcases hok.js i j hlt hj with q | ⟨k, hk, hkj⟩
    · exact hed j (by simpa [edgesAt, ho] using q)
    · exact h.clos k (hed k (by simpa [edgesAt, ho] using hk)) j hkj
  have hdst : dstAt ops i = o.dst := by simp [dstAt, ho]
  have heff : effAt ops i = isEff o := by simp [effAt, ho]
  -- it is found, or the next effect
  have hreach : ∃ H' rc' rest', DInv P base N ops D π K s0 X0 listed a X H' rc' rest' ∧ ((∃ r, rest' = i :: r ∧ effAt ops i = true) ∨ ∃ e ∈ rc', e.i = i) := by
    have hm : i ∈ rc.map Ent.i ++ rest := by rw [h.spl]; exact hok.mem i hlt
    rcases List.mem_append.1 hm with q | q
    · obtain ⟨e, he, hei⟩ := List.mem_map.1 q
      exact ⟨H, rc, rest, h, .inr ⟨e, he, hei⟩⟩
    · exact reach hok hd h q
  clear h
  obtain ⟨H, rc, rest, h, hcase⟩ := hreach
  unfold wpOp
  rw [ho]
  simp only
  rcases hcase with ⟨r, hr, hef⟩ | ⟨e, he, hei⟩
  · -- an effect
    subst hr
    have hag := agree hok h ho hun hd (pre := rc) (post := []) (tail := r) (by simp) h.spl (by simp)
    have hw := h.w
    simp only [drawW, ho] at hw
    obtain ⟨hdk, hw⟩ := hw
    rw [heff] at hef
    have hdk' : dstOk N (dstAt ops i) := by rw [hdst]; exact hdk
    have hunl : ∀ e ∈ rc, on listed e.i = false → depOf D i e.i = false := by
      intro e' he' hl
      cases hq : depOf D i e'.i with
      | false => rfl
      | true => rw [hd _ hq] at hl; cases hl
    split at hw
    · exact hw.elim
    · rename_i hwant
      have hw2 := wantV_sim h.rel (ops := ops) (o := o) (b := false) (by rw [← hwant]; exact wantV_congr hag) hN
      rw [if_neg (by rw [hw2]; simp), ← hdst]
      exact hnext _ X H _ _ (h.struck hok hlt hd h.hr (.refl _ _) (.refl _ _) (fun id h1 _ _ => h1) (R.unit X) hdk' h.ag (by rw [hdst]; exact hw))
    · rename_i hwant
      have hw2 := wantV_sim h.rel (ops := ops) (o := o) (b := true) (by rw [← hwant]; exact wantV_congr hag) hN
      rw [if_pos hw2]
      rw [if_pos hef] at hw
      left
      have hb1 : base ≤ effBase D rc i H base := by unfold effBase; split <;> first | exact h.lb | exact Nat.le_refl _
      have hb2 : effBase D rc i H base ≤ H.n := by unfold effBase; split <;> first | exact h.lb | exact Nat.le_refl _
      have hρ : ∀ x, x ∈ o.op.operands → ρV (sig ops s0.σ (wk listed rc)) x = ρV (sig ops s0.σ rc) x := ρV_congr hag
      rw [← opW_congr hρ] at hw
      refine opW_sound (base := effBase D rc i H base) (ρ := ρV (sig ops s0.σ (wk listed rc))) h.hr hb2 h.rel.eval (KP := fun v H' => (r.isEmpty && rc.all fun e => depOf D i e.i) = true ∧ K (some v) ⟨sig ops s0.σ rc, H', s0.D⟩) (KD := fun _ _ => False) hw ?_ ?_ ?_
      · intro v H' X' rv h1 h2 h3 h4 h5
        obtain ⟨h6, h7⟩ := h5
        rw [← hdst]
        refine hnext _ X' H' _ _ (h.struck hok hlt hd h1 (h2.mono hb1) ⟨fun id hid => h3.1 id (Nat.lt_of_lt_of_le hid hb1), h3.2⟩ ?_ h4 hdk' ?_ (by rw [hdst]; exact h7))
        · rintro id q1 q2 ⟨e', q3, q4, q5⟩
          have : effBase D rc i H base = H.n := by
            unfold effBase
            rw [if_pos]
            rw [List.any_eq_true]
            exact ⟨e', q3, by simp [q5, hunl e' q3 q4]⟩
          rw [this] at h2
          rw [h2.low id q2]; exact q1
        · intro e' he' hl
          by_cases hh : heapyAt ops e'.i = true
          · exact h6 e' (by simp [he', hh, hunl e' he' hl])
          · exact again_heapy (by simpa using hh) (h.ag e' he' hl) _
      · intro f cap rcap _ hf; exact hf.elim
      · intro v H' X' rv h1 h2 h3 h4 hf
        simp only [Bool.and_eq_true, List.all_eq_true] at hf
        have hwk : wk listed rc = rc := by
          unfold wk
          rw [List.filter_eq_self]
          intro e' he'
          exact hd _ (hf.1.2 e' he')
        have hrel := h.rel
        rw [hwk] at hrel
        have hlow : Low base H H' := ⟨fun id hid => h3.1 id (Nat.lt_of_lt_of_le hid hb1), h3.2⟩
        exact hpan v X' _ rv (hrel.step h1 (h2.mono hb1) hlow) (h.ext.trans (h2.mono hb1)) (h.low.trans hlow) h4 hf.2
  · -- it was found before
    obtain ⟨pre, post, hrc⟩ := List.append_of_mem he
    subst hei
    have hπ : pre.map Ent.i ++ e.i :: (post.map Ent.i ++ rest) = π := by rw [← h.spl, hrc]; simp
    have hag := agree hok h ho hun hd (pre := pre) (post := e :: post) (tail := post.map Ent.i ++ rest) hrc hπ (fun e' he' => by
      rcases List.mem_cons.1 he' with q | q
      · exact .inl (by rw [q])
      · exact .inr (List.mem_append_left _ (List.mem_map.2 ⟨e', q, rfl⟩)))
    rw [← h.wf pre e post hrc] at hag
    have hnef : isEff o = false := by
      cases hq : isEff o with
      | false => rfl
      | true => rw [h.eff e he (by rw [heff, hq])] at hun; cases hun
    have hg := h.ag e he hun
    unfold again at hg
    rw [ho] at hg
    simp only at hg
    split at hg
    · exact hg.elim
    · rename_i hwant
      have hw2 := wantV_sim h.rel (ops := ops) (o := o) (b := false) (by rw [← hwant]; exact wantV_congr hag) hN
      rw [if_neg (by rw [hw2]; simp), ← hdst]
      exact hnext _ X H _ _ (h.ran hok hrc hlt hun hd h.hr (.refl _ _) (fun id h1 _ _ => h1) (by rw [hg.1]; exact R.unit X))
    · rename_i hwant
      have hw2 := wantV_sim h.rel (ops := ops) (o := o) (b := true) (by rw [← hwant]; exact wantV_congr hag) hN
      rw [if_pos hw2]
      rw [if_neg (by rw [hnef]; simp)] at hg
      left
      have hρ : ∀ x, x ∈ o.op.operands → ρV (sig ops s0.σ (wk listed rc)) x = ρV e.σ x := ρV_congr hag
      split at hg
      · rename_i id hid
        obtain ⟨hfree, hg⟩ := hg
        rw [← frV_congr hρ] at hg
        split at hg
        · rename_i v ob hfr
          obtain ⟨rfl, hget⟩ := hg
          obtain ⟨ru, obj, g1, g2, g3⟩ := fr_sim (a := a) (X := X) h.rel.eval hfr
          obtain ⟨hp, hbid⟩ := h.fr e he hun id hid
          have hn := h.frn e he id hid
          refine wp_value g1 ?_
          rw [← hdst]
          refine hnext _ (X.push id obj) H _ _ (h.ran hok hrc hlt hun hd (hr_pushAt h.hr hp hn hget g2) (ext_pushAt h.hr hp obj hbid) ?_ g3)
          intro k q1 q2 q3
          simp only [Cx.push]
          rw [if_neg (fun q => q3 (by rw [hid, q]))]
          exact q1
        · exact hg.elim
      · rename_i hid
        rw [← valV_congr hρ] at hg
        refine opW_sound (base := H.n) (ρ := ρV (sig ops s0.σ (wk listed rc))) h.hr (Nat.le_refl _) h.rel.eval (KP := fun _ _ => False) (KD := fun _ _ => False) (val_opW hg (K := fun v' H' => v' = e.v ∧ H' = H) ⟨rfl, rfl⟩) ?_ ?_ ?_
        · intro v H' X' rv h1 h2 h3 h4 h5
          obtain ⟨rfl, rfl⟩ := h5
          rw [← hdst]
          exact hnext _ X' H' _ _ (h.ran hok hrc hlt hun hd h1 (h2.mono h.lb) (fun k q1 q2 _ => by rw [h2.low k q2]; exact q1) h4)
        · intro f cap rcap _ hf; exact hf.elim
        · intro v H' X' rv _ _ _ _ hf; exact hf.elim

theorem draw_any (hok : DrawOk ops D π) (hN : ∀ (j : Nat) (o' : Oper) (d : Tmp), ops[j]? = some o' → o'.dst = some d → d < N) {Q : Exit → Act → World → Prop}
    (hQ : ∀ a' X' s', Rel base N X' s' a' → Ext base X0 X' → Low base s0.H s'.H → K none s' → Q .normal a' X'.w)
    (hP : ∀ a' v X' s' rv, Rel base N X' s' a' → Ext base X0 X' → Low base s0.H s'.H → R X' v rv → K (some v) s' → Q (.panic [{ v := rv, recovered := false }]) a' X'.w) :
    ∀ (fuel : Nat) (listed : Array Bool) (a : Act) (X : Cx) (H : Heap) (rc : List Ent) (rest : List Nat), DInv P base N ops D π K s0 X0 listed a X H rc rest → π.countP (fun i => !on listed i) ≤ fuel → wpAny P .any ops Q fuel listed a X.w := by
  have done : ∀ (listed : Array Bool) (a : Act) (X : Cx) (H : Heap) (rc : List Ent) (rest : List Nat), DInv P base N ops D π K s0 X0 listed a X H rc rest → Region.ready .any ops listed = [] → Q .normal a X.w := by
    intro listed a X H rc rest h hr
    have hall := all_run hok h.size hr
    have hrest : rest = [] := by
      cases rest with
      | nil => rfl
      | cons j r =>
        have := hall j (by rw [← h.spl]; simp)
        rw [h.un j List.mem_cons_self] at this
        cases this
    subst hrest
    have hwk : wk listed rc = rc := by
      unfold wk
      rw [List.filter_eq_self]
      intro e he
      exact hall e.i (by rw [← h.spl]; simp only [List.append_nil, List.mem_map]; exact ⟨e, he, rfl⟩)
    have hrel := h.rel
    rw [hwk] at hrel
    exact hQ a X _ hrel h.ext h.low (by simpa [drawW] using h.w)
  intro fuel
  induction fuel with
  | zero =>
    intro listed a X H rc rest h hc
    have hnil : Region.ready .any ops listed = [] := by
      cases hq : Region.ready .any ops listed with
      | nil => rfl
      | cons i l =>
        exfalso
        have hm : i ∈ Region.ready .any ops listed := by rw [hq]; exact List.mem_cons_self
        obtain ⟨o, ho, hlt, hun, _⟩ := ready_spec h.size hm
        have := List.countP_eq_zero.1 (Nat.le_zero.1 hc) i (hok.mem i hlt)
        simp [hun] at this
    exact ⟨hnil, done listed a X H rc rest h hnil⟩
  | succ fuel ih =>
    intro listed a X H rc rest h hc
    refine ⟨fun hnil => done listed a X H rc rest h hnil, fun i hi => ?_⟩
    obtain ⟨o, ho, hlt, hun, _⟩ := ready_spec h.size hi
    refine draw_step hok hN h hi (fun v X' s' rv => hP a v X' s' rv) fun a' X' H' rc' rest' h' => ih _ _ _ _ _ _ h' ?_
    have hs : i < listed.size := by rw [h.size]; exact hlt
    have := countP_lt (p := fun i => !on listed i) (q := fun j => !on (listed.setIfInBounds i true) j) (i := i) (l := π) (fun x hx => by
      simp only [Bool.not_eq_true'] at hx ⊢
      rw [on_set hs] at hx
      simp only [Bool.or_eq_false_iff] at hx
      exact hx.1) (hok.mem i hlt) (by simp [hun]) (by simp [on_set hs])
    omega

end

theorem nwp_draw {P : Program} {base N : Nat} {id : Nat} {ops : List Oper} {Q : Ex → S → Prop} {s : S} (D : List (List Nat)) (π : List Nat) (hm : P.follows .mixedOrders = true) (hok : opsOk N ops = true) (hd : drawOk ops.toArray D π = true)
    (h : drawW P base N ops.toArray D (fun o s' => match o with | none => Q .normal s' | some v => Q (.pan v) s') π s []) : NWp P base N (.region id ops.toArray true) Q s := by
  intro X a hr
  refine wp_region_any hm ?_
  have hx : Rel base N X.drew s a := hr.step (hr_drew hr.hr) (ext_drew X base) (.refl _ _)
  show wpAny P .any ops.toArray _ ops.toArray.size _ a X.drew.w
  refine draw_any (X0 := X.drew) (s0 := s) (π := π) (D := D) (K := fun o s' => match o with | none => Q .normal s' | some v => Q (.pan v) s') (drawOk_spec hd) (opsOk_spec hok) (base := base) ?_ ?_ _ _ a X.drew s.H [] π ?_ ?_
  · intro a' X' s' h1 h2 h3 h4
    exact ⟨.normal, s', X', rfl, trivial, h4, h1, (ext_drew X base).trans h2, h3⟩
  · intro a' v X' s' rv h1 h2 h3 h4 h5
    exact ⟨.pan v, s', X', rfl, ⟨rv, rfl, h4⟩, h5, h1, (ext_drew X base).trans h2, h3⟩
  · have hoff : ∀ i, on (Array.replicate ops.toArray.size false) i = false := by
      intro i
      unfold on
      simp only [Array.getD_eq_getD_getElem?, Array.getElem?_replicate]
      split <;> rfl
    exact ⟨hx.hr, by simp, hx.n, rfl, fun pre e post hq => by simp at hq, fun i _ => hoff i, by simp, fun i hi => (by rw [hoff i] at hi; cases hi), by simp, by simp, by simp, by simp, by simp, by simpa [wk, sig] using hx.tm, hx.ds, .refl _ _, .refl _ _, hx.low, h⟩
  · exact Nat.le_trans List.countP_le_length (drawOk_spec hd).len

end Go.Ns

