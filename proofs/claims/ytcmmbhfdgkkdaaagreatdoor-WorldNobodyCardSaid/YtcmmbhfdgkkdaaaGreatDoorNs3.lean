/- A logic of the model's calls, part 3. -/
import Derived.Test.YtcmmbhfdgkkdaaaGreatDoorNs2
import Derived.RowKit3
import Derived.ChangeSame
/- Ns, part Za: a run of the abstract program, reckoned. -/
namespace Go.Ns

/-! ### One operation -/
def optB (o : Option V) (K : V → Bool) : Bool := match o with | some v => K v | none => false
def optHB (o : Option (V × Heap)) (K : V → Heap → Bool) : Bool := match o with | some (v, H) => K v H | none => false
def optUB (o : Option Heap) (K : V → Heap → Bool) : Bool := match o with | some H => K (.tup []) H | none => false

def bltB (P : Program) (base : Nat) (H : Heap) (b : Builtin) (ts : List TypeId) (args : List V) (K : V → Heap → Bool) : Bool :=
  match b, ts, args with
  | .append, [t, t1], [s, x] => optHB (apV P base H t t1 s x) K
  | .len, [t], [x] => optB (lnV P H t x) fun v => K v H
  | .cap, [t], [x] => optB (cpV P t x) fun v => K v H
  | .min, _, xs => optB (mmV false xs) fun v => K v H
  | .max, _, xs => optB (mmV true xs) fun v => K v H
  | .clear, [t], [x] => optUB (clV P base H t x) K
  | .delete, [t, _], [m, k] => optUB (dlV P base H t m k) K
  | _, _, _ => false

def cvB (P : Program) (base : Nat) (H : Heap) (s d : TypeId) (x : V) (K : V → Heap → Bool) : Bool :=
  match cvV P s d x with
  | some v => K v H
  | none => match bstV P H s d x with
    | some v => K v H
    | none => optHB (sbV P base H s d x) K

abbrev CallB := Nat → FuncId → List V → Heap → (Res → Heap → Bool) → Bool

def callKB (K KP : V → Heap → Bool) : Res → Heap → Bool
  | .ret v, H => K v H
  | .pan v, H => KP v H

def opB (P : Program) (call : CallB) (base : Nat) (o : Oper) (ρ : Operand → V) (H : Heap) (K : V → Heap → Bool) (KD : FuncId → List V → Bool) (KP : V → Heap → Bool) : Bool :=
  match o.op with
  | .move x | .assign x => K (ρ x) H
  | .pick c a b => match ρ c with | .bool true => K (ρ a) H | .bool false => K (ρ b) H | _ => false
  | .alloc t => optHB (alV P H t) K
  | .box _ x => optHB (bxV H (ρ x)) K
  | .build t ps => optB (bdV P t (ps.toList.map fun p => (p.1, ρ p.2))) fun v => K v H
  | .buildSlice t n ps => optB (bsV P t n (ps.toList.map fun p => (p.1, ρ p.2))) fun v => K v H
  | .load t a => optB (ldV P H t (ρ a)) fun v => K v H
  | .store t a x => optUB (stoV P base H t (ρ a) (ρ x)) K
  | .nilCheck x => match ρ x with | .ptr id g o => K (.ptr id g o) H | .fptr cs => K (.fptr cs) H | _ => false
  | .binOp op t x y _ => optB (binV P op t (ρ x) (ρ y)) fun v => K v H
  | .unOp op _ x => optB (unV op (ρ x)) fun v => K v H
  | .convert s d x => cvB P base H s d (ρ x) K
  | .makeInterface t x => optB (miV P t (ρ x)) fun v => K v H
  | .makeFunc (.func f) first cap => if first.isEmpty then !hdT (cap.toList.map ρ) && K (.fn f (cap.toList.map ρ)) H else K (.fn f (.tup (first.toList.map ρ) :: cap.toList.map ρ)) H
  | .makeMap _ none => K (mmpV H).1 (mmpV H).2
  | .makeSlice t l c => optHB (mkV P base H t (ρ l) (ρ c)) K
  | .slice t x lo hi mx => optB (slV P H t (ρ x) (lo.map ρ) (hi.map ρ) (mx.map ρ)) fun v => K v H
  | .fieldAddr t x i => optB (faV P t (ρ x) i) fun v => K v H
  | .field t x i => optB (fdV P t (ρ x) i) fun v => K v H
  | .indexAddr t x i => optB (iaV P t (ρ x) (ρ i)) fun v => K v H
  | .index t x i => optB (ixV P t (ρ x) (ρ i)) fun v => K v H
  | .lookup t x i ok => optB (lkV P H t (ρ x) (ρ i) ok) fun v => K v H
  | .mapUpdate t m k x => optUB (muV P base H t (ρ m) (ρ k) (ρ x)) K
  | .insert t m k x => optUB (muV P base H t (ρ m) (ρ k) (ρ x)) K
  | .range t x => optHB (rgV P base H t (ρ x)) K
  | .next it false => match nxV base H (ρ it) with | some outs => outs.all fun o => K o.1 o.2 | none => false
  | .entry it => optB (enV H (ρ it)) fun v => K v H
  | .typeAssert x _ t true => optB (taV P (ρ x) t) fun v => K v H
  | .extract x i => optB (exV (ρ x) i) fun v => K v H
  | .call { callee := .builtin b, args, argTypes } => bltB P base H b argTypes.toList (args.toList.map ρ) K
  | .call { callee := .value f, args, .. } => match ρ f with
    | .fn g cap => match extV P g (callArgs (args.toList.map ρ) cap) with | some v => K v H | none => fnT P g && call base g (callArgs (args.toList.map ρ) cap) H (callKB K KP)
    | _ => false
  | .defer { callee := .value f, args, .. } => match ρ f with
    | .fn g cap => !hdT cap && args.isEmpty && KD g cap
    | _ => false
  | .panic x => match ρ x with | .ifc t v => KP (.ifc t v) H | _ => false
  | _ => false

def CallOk (P : Program) (call : CallB) : Prop := ∀ base f args H (K : Res → Heap → Bool), call base f args H K = true → NCall P base f args H (fun r H' => K r H' = true)

section
variable {P : Program}

theorem optB_sound {o : Option V} {K : V → Bool} {K' : V → Prop} (h : optB o K = true) (hk : ∀ v, K v = true → K' v) : optK o K' := by
  cases o with
  | none => cases h
  | some v => exact hk v h
theorem optHB_sound {o : Option (V × Heap)} {K : V → Heap → Bool} {K' : V → Heap → Prop} (h : optHB o K = true) (hk : ∀ v H, K v H = true → K' v H) : optKH o K' := by
  cases o with
  | none => cases h
  | some v => exact hk v.1 v.2 h
theorem optUB_sound {o : Option Heap} {K : V → Heap → Bool} {K' : V → Heap → Prop} (h : optUB o K = true) (hk : ∀ v H, K v H = true → K' v H) : optH o K' := by
  cases o with
  | none => cases h
  | some v => exact hk _ v h

theorem bltB_sound {base : Nat} {H : Heap} {b : Builtin} {ts : List TypeId} {args : List V} {K : V → Heap → Bool} {K' : V → Heap → Prop} (h : bltB P base H b ts args K = true) (hk : ∀ v H, K v H = true → K' v H) : bltW P base H b ts args K' := by
  unfold bltB at h
  unfold bltW
  split at h
  · exact optHB_sound h hk
  · exact optB_sound h fun v => hk v H
  · exact optB_sound h fun v => hk v H
  · exact optB_sound h fun v => hk v H
  · exact optB_sound h fun v => hk v H
  · exact optUB_sound h hk
  · exact optUB_sound h hk
  · cases h

theorem opB_sound {call : CallB} (hc : CallOk P call) {base : Nat} {o : Oper} {ρ : Operand → V} {H : Heap} {K : V → Heap → Bool} {KD : FuncId → List V → Bool} {KP : V → Heap → Bool} {K' : V → Heap → Prop} {KD' : FuncId → List V → Prop} {KP' : V → Heap → Prop}
    (h : opB P call base o ρ H K KD KP = true) (hk : ∀ v H, K v H = true → K' v H) (hkd : ∀ f c, KD f c = true → KD' f c) (hkp : ∀ v H, KP v H = true → KP' v H) : opW P base o ρ H K' KD' KP' := by
  obtain ⟨dst, op, type, pos, after, guard⟩ := o
  have no : ∀ {p : Prop}, false = true → p := fun h => by cases h
  cases op <;> simp only [opB] at h <;> simp only [opW]
  case move => exact hk _ _ h
  case assign => exact hk _ _ h
  case pick =>
    split at h
    · rename_i q; simp only [q]; exact hk _ _ h
    · rename_i q; simp only [q]; exact hk _ _ h
    · cases h
  case alloc => exact optHB_sound h hk
  case box => exact optHB_sound h hk
  case build => exact optB_sound h fun v => hk v H
  case buildSlice => exact optB_sound h fun v => hk v H
  case load => exact optB_sound h fun v => hk v H
  case store => exact optUB_sound h hk
  case nilCheck =>
    split at h
    · rename_i q; simp only [q]; exact hk _ _ h
    · rename_i q; simp only [q]; exact hk _ _ h
    · cases h
  case binOp => exact optB_sound h fun v => hk v H
  case unOp => exact optB_sound h fun v => hk v H
  case convert =>
    unfold cvB at h
    unfold cvW
    split at h
    · rename_i q; simp only [q]; exact hk _ _ h
    · rename_i q
      simp only [q]
      split at h
      · rename_i q2; simp only [q2]; exact hk _ _ h
      · rename_i q2; simp only [q2]; exact optHB_sound h hk
  case makeInterface => exact optB_sound h fun v => hk v H
  case makeFunc fn first cap =>
    cases fn <;> simp only at h ⊢ <;> first | (exact no h) | skip
    split at h
    · rename_i q
      rw [if_pos q]
      simp only [Bool.and_eq_true, Bool.not_eq_true'] at h
      exact ⟨h.1, hk _ _ h.2⟩
    · rename_i q; rw [if_neg q]; exact hk _ _ h
  case makeMap t r =>
    cases r <;> simp only at h ⊢
    · exact hk _ _ h
    · exact no h
  case makeSlice => exact optHB_sound h hk
  case slice => exact optB_sound h fun v => hk v H
  case fieldAddr => exact optB_sound h fun v => hk v H
  case field => exact optB_sound h fun v => hk v H
  case indexAddr => exact optB_sound h fun v => hk v H
  case index => exact optB_sound h fun v => hk v H
  case lookup => exact optB_sound h fun v => hk v H
  case mapUpdate => exact optUB_sound h hk
  case insert => exact optUB_sound h hk
  case range => exact optHB_sound h hk
  case next it s =>
    cases s <;> simp only at h ⊢
    · split at h
      · rename_i q; simp only [q]; intro o ho; exact hk _ _ (List.all_eq_true.1 h o ho)
      · cases h
    · exact no h
  case entry => exact optB_sound h fun v => hk v H
  case typeAssert x s t ok =>
    cases ok <;> simp only at h ⊢
    · exact no h
    · exact optB_sound h fun v => hk v H
  case extract => exact optB_sound h fun v => hk v H
  case call c =>
    obtain ⟨callee, args, ts⟩ := c
    cases callee <;> simp only at h ⊢
    case builtin => exact bltB_sound h hk
    case value f =>
      split at h
      · rename_i g cap q
        simp only [q]
        unfold callW
        cases hx : extV P g (callArgs (args.toList.map ρ) cap) with
        | some v =>
          rw [hx] at h
          exact hk _ _ h
        | none =>
          rw [hx] at h
          simp only [Bool.and_eq_true] at h
          refine ⟨h.1, (hc _ _ _ _ _ h.2).mono ?_⟩
          intro r H' hr
          cases r with
          | ret v => exact hk _ _ hr
          | pan v => exact hkp _ _ hr
      · cases h
    case invoke => exact no h
  case defer c =>
    obtain ⟨callee, args, ts⟩ := c
    cases callee <;> simp only at h ⊢
    case value f =>
      split at h
      · rename_i q
        simp only [Bool.and_eq_true, Bool.not_eq_true'] at h
        simp only [q]
        exact ⟨h.1.1, h.1.2, hkd _ _ h.2⟩
      · cases h
    all_goals exact no h
  case panic =>
    split at h
    · rename_i q; simp only [q]; exact hkp _ _ h
    · cases h
  all_goals exact no h

/-! ### Operations -/
def opsB (P : Program) (call : CallB) (base : Nat) (ops : Array Oper) (K : S → Bool) (KP : V → S → Bool) : List Oper → S → Bool
  | [], s => K s
  | o :: rest, s => match wantV ops s.σ o.guard with
    | some true => opB P call base o (ρV s.σ) s.H (fun v H => opsB P call base ops K KP rest ⟨upd s.σ o.dst v, H, s.D⟩) (fun f cap => opsB P call base ops K KP rest ⟨upd s.σ o.dst (.tup []), s.H, (f, cap) :: s.D⟩) (fun v H => KP v ⟨s.σ, H, s.D⟩)
    | some false => opsB P call base ops K KP rest ⟨upd s.σ o.dst (.tup []), s.H, s.D⟩
    | none => false

theorem opsB_sound {call : CallB} (hc : CallOk P call) {base N : Nat} {ops : Array Oper} {K : S → Bool} {KP : V → S → Bool} {K' : S → Prop} {KP' : V → S → Prop} (hk : ∀ s, K s = true → K' s) (hkp : ∀ v s, KP v s = true → KP' v s) :
    ∀ (l : List Oper) (s : S), (∀ o ∈ l, dstOk N o.dst) → opsB P call base ops K KP l s = true → opsW P base N ops K' KP' l s
  | [], s, _, h => hk s h
  | o :: rest, s, hd, h => by
    have hrest : ∀ o ∈ rest, dstOk N o.dst := fun o ho => hd o (List.mem_cons_of_mem _ ho)
    simp only [opsB] at h
    simp only [opsW]
    refine ⟨hd o List.mem_cons_self, ?_⟩
    split at h
    · rename_i q
      simp only [q]
      exact opB_sound hc h (fun v H hq => opsB_sound hc hk hkp rest _ hrest hq) (fun f c hq => opsB_sound hc hk hkp rest _ hrest hq) (fun v H hq => hkp _ _ hq)
    · rename_i q
      simp only [q]
      exact opsB_sound hc hk hkp rest _ hrest h
    · cases h

theorem dstOk_of_opsOk {N : Nat} {ops : List Oper} (h : opsOk N ops = true) : ∀ o ∈ ops, dstOk N o.dst := by
  intro o ho
  have := List.all_eq_true.1 h o ho
  cases hd : o.dst with
  | none => trivial
  | some d => simpa [dstOk, hd] using this

end
end Go.Ns

/- Ns, part Zb: a run of the abstract program, reckoned: code, calls. -/
namespace Go.Ns

/-! ### Drawn regions -/
def mkD (ops : Array Oper) : List (List Nat) :=
  (List.range ops.size).foldl (fun D i => D ++ [(edgesAt ops i).foldl (fun acc j => acc ++ (j :: D.getD j []).filter (fun k => !acc.contains k)) []]) []

def mkP (ops : Array Oper) : Nat → List Nat → List Nat → List Nat
  | 0, _, acc => acc
  | n + 1, todo, acc =>
    let ok := todo.filter fun i => (edgesAt ops i).all (acc.contains ·)
    match ok.filter (fun i => match ops[i]? with | some o => isFree o | none => false) ++ ok.filter (fun i => !effAt ops i) with
    | i :: _ => mkP ops n (todo.filter (· != i)) (acc ++ [i])
    | [] => match ok with
      | i :: _ => mkP ops n (todo.filter (· != i)) (acc ++ [i])
      | [] => acc

def planD (ops : Array Oper) : List Nat := mkP ops ops.size (List.range ops.size) []

def eqHB : Option HObj → Option HObj → Bool
  | _, _ => false

/-- May it be taken as still so? Here: only what is told by the heap's not having changed at all below what it looks at is left to 'again', decided. -/
def againB (P : Program) (ops : Array Oper) (H : Heap) (e : Ent) : Bool :=
  match ops[e.i]? with
  | none => false
  | some o => match wantV ops e.σ o.guard with
    | none => false
    | some false => match e.v, e.id with | .tup [], none => true | _, _ => false
    | some true => isEff o || match e.id with
      | some id => isFree o && match frV P o (ρV e.σ) id, H.get id with
        | some (v, ob), some ob' => sameV v e.v && sameO ob ob'
        | _, _ => false
      | none => match valV P o (ρV e.σ) H with
        | some v => sameV v e.v
        | none => false
  where
  sameV : V → V → Bool
    | .bool a, .bool b => a == b
    | .int k a, .int k' b => decide (k = k') && a == b
    | .str a, .str b => decide (a = b)
    | .nilp, .nilp => true
    | .ptr a b c, .ptr a' b' c' => a == a' && b == b' && c == c'
    | .fptr cs, .fptr cs' => sameVs cs cs'
    | .nils, .nils => true
    | .fsl e n cs, .fsl e' n' cs' => e == e' && n == n' && sameVs cs cs'
    | .hsl a b c d e f g, .hsl a' b' c' d' e' f' g' => a == a' && b == b' && c == c' && d == d' && e == e' && f == f' && g == g'
    | .nilm, .nilm => true
    | .map a, .map b => a == b
    | .nilf, .nilf => true
    | .fn f cs, .fn f' cs' => f == f' && sameVs cs cs'
    | .nili, .nili => true
    | .ifc t v, .ifc t' v' => t == t' && sameV v v'
    | .agg cs, .agg cs' => sameVs cs cs'
    | .tup cs, .tup cs' => sameVs cs cs'
    | _, _ => false
  sameVs : List V → List V → Bool
    | [], [] => true
    | a :: as, b :: bs => sameV a b && sameVs as bs
    | _, _ => false
  sameO : HObj → HObj → Bool
    | .cells g cs, .cells g' cs' => g == g' && sameVs cs cs'
    | _, _ => false

mutual
theorem sameV_eq : ∀ (a b : V), againB.sameV a b = true → a = b
  | .undef, b, h => by cases b <;> simp [againB.sameV] at h
  | .bool a, b, h => by cases b <;> simp [againB.sameV] at h; rw [h]
  | .int k a, b, h => by cases b <;> simp [againB.sameV] at h; rw [h.1, h.2]
  | .flt k a, b, h => by cases b <;> simp [againB.sameV] at h
  | .str a, b, h => by cases b <;> simp [againB.sameV] at h; rw [h]
  | .nilp, b, h => by cases b <;> simp [againB.sameV] at h; rfl
  | .ptr .., b, h => by cases b <;> simp [againB.sameV] at h; simp [h]
  | .fptr cs, b, h => by cases b <;> simp [againB.sameV] at h; rw [sameVs_eq _ _ h]
  | .nils, b, h => by cases b <;> simp [againB.sameV] at h; rfl
  | .fsl .., b, h => by cases b <;> simp [againB.sameV] at h; rw [h.1.1, h.1.2, sameVs_eq _ _ h.2]
  | .hsl .., b, h => by cases b <;> simp [againB.sameV] at h; simp [h]
  | .nilm, b, h => by cases b <;> simp [againB.sameV] at h; rfl
  | .map .., b, h => by cases b <;> simp [againB.sameV] at h; simp [h]
  | .nilf, b, h => by cases b <;> simp [againB.sameV] at h; rfl
  | .fn .., b, h => by cases b <;> simp [againB.sameV] at h; rw [h.1, sameVs_eq _ _ h.2]
  | .nili, b, h => by cases b <;> simp [againB.sameV] at h; rfl
  | .ifc t v, b, h => by cases b <;> simp [againB.sameV] at h; rw [h.1, sameV_eq _ _ h.2]
  | .agg cs, b, h => by cases b <;> simp [againB.sameV] at h; rw [sameVs_eq _ _ h]
  | .tup cs, b, h => by cases b <;> simp [againB.sameV] at h; rw [sameVs_eq _ _ h]
theorem sameVs_eq : ∀ (a b : List V), againB.sameVs a b = true → a = b
  | [], b, h => by cases b <;> simp [againB.sameVs] at h; rfl
  | x :: xs, b, h => by
    cases b <;> simp [againB.sameVs] at h
    rw [sameV_eq _ _ h.1, sameVs_eq _ _ h.2]
end

theorem sameO_eq {a b : HObj} (h : againB.sameO a b = true) : a = b := by
  cases a <;> cases b <;> simp [againB.sameO] at h
  rw [h.1, sameVs_eq _ _ h.2]

theorem againB_sound {P : Program} {ops : Array Oper} {H : Heap} {e : Ent} (h : againB P ops H e = true) : again P ops H e := by
  unfold againB at h
  unfold again
  split at h
  · cases h
  · rename_i o ho
    simp only [ho]
    split at h
    · cases h
    · rename_i q
      simp only [q]
      split at h
      · rename_i h1 h2; exact ⟨h1, h2⟩
      · cases h
    · rename_i q
      simp only [q]
      by_cases hf : isEff o = true
      · rw [if_pos hf]; trivial
      · rw [if_neg hf]
        simp only [Bool.or_eq_true] at h
        have h := h.resolve_left hf
        split at h
        · rename_i id hid
          simp only [hid]
          simp only [Bool.and_eq_true] at h
          refine ⟨h.1, ?_⟩
          have h := h.2
          split at h
          · rename_i v ob ob' q1 q2
            simp only [Bool.and_eq_true] at h
            simp only [q1]
            exact ⟨sameV_eq _ _ h.1, by rw [q2, sameO_eq h.2]⟩
          · cases h
        · rename_i hid
          simp only [hid]
          split at h
          · rename_i v q1
            rw [q1, sameV_eq _ _ h]
          · cases h

def drawB (P : Program) (call : CallB) (base : Nat) (ops : Array Oper) (D : List (List Nat)) (K : Option V → S → Bool) : List Nat → S → List Ent → Bool
  | [], s, _ => K none s
  | i :: rest, s, rc => match ops[i]? with
    | none => false
    | some o => match wantV ops s.σ o.guard with
      | none => false
      | some false => drawB P call base ops D K rest ⟨upd s.σ o.dst (.tup []), s.H, s.D⟩ (rc ++ [⟨i, s.σ, .tup [], none⟩])
      | some true =>
        if isEff o = true then
          opB P call (effBase D rc i s.H base) o (ρV s.σ) s.H
            (fun v H' => ((rc.filter (fun e => heapyAt ops e.i && !depOf D i e.i)).all fun e => againB P ops H' e) && drawB P call base ops D K rest ⟨upd s.σ o.dst v, H', s.D⟩ (rc ++ [⟨i, s.σ, v, none⟩]))
            (fun _ _ => false) (fun v H' => (rest.isEmpty && rc.all fun e => depOf D i e.i) && K (some v) ⟨s.σ, H', s.D⟩)
        else if isFree o = true then match frV P o (ρV s.σ) s.H.n with
          | some (v, ob) => ((rc.filter (fun e => heapyAt ops e.i)).all fun e => againB P ops (s.H.new ob) e) && drawB P call base ops D K rest ⟨upd s.σ o.dst v, s.H.new ob, s.D⟩ (rc ++ [⟨i, s.σ, v, some s.H.n⟩])
          | none => false
        else match valV P o (ρV s.σ) s.H with
          | some v => drawB P call base ops D K rest ⟨upd s.σ o.dst v, s.H, s.D⟩ (rc ++ [⟨i, s.σ, v, none⟩])
          | none => false

theorem drawB_sound {P : Program} {call : CallB} (hc : CallOk P call) {base N : Nat} {ops : Array Oper} (hd : ∀ (i : Nat) (o : Oper), ops[i]? = some o → dstOk N o.dst) {D : List (List Nat)} {K : Option V → S → Bool} {K' : Option V → S → Prop} (hk : ∀ o s, K o s = true → K' o s) :
    ∀ (l : List Nat) (s : S) (rc : List Ent), drawB P call base ops D K l s rc = true → drawW P base N ops D K' l s rc
  | [], s, _, h => hk none s h
  | i :: rest, s, rc, h => by
    simp only [drawB] at h
    simp only [drawW]
    split at h
    · cases h
    · rename_i o ho
      simp only [ho]
      refine ⟨hd i o ho, ?_⟩
      split at h
      · cases h
      · rename_i q; simp only [q]; exact drawB_sound hc hd hk rest _ _ h
      · rename_i q
        simp only [q]
        split at h
        · rename_i he
          rw [if_pos he]
          refine opB_sound hc h (fun v H' hq => ?_) (fun _ _ hq => by cases hq) (fun v H' hq => by
            simp only [Bool.and_eq_true] at hq
            exact ⟨by simpa using hq.1, hk _ _ hq.2⟩)
          simp only [Bool.and_eq_true, List.all_eq_true] at hq
          exact ⟨fun e he => againB_sound (hq.1 e he), drawB_sound hc hd hk rest _ _ hq.2⟩
        · rename_i he
          rw [if_neg he]
          split at h
          · rename_i hf
            rw [if_pos hf]
            split at h
            · rename_i v ob q2
              simp only [q2]
              simp only [Bool.and_eq_true, List.all_eq_true] at h
              exact ⟨fun e he => againB_sound (h.1 e he), drawB_sound hc hd hk rest _ _ h.2⟩
            · cases h
          · rename_i hf
            rw [if_neg hf]
            split at h
            · rename_i v q2; simp only [q2]; exact drawB_sound hc hd hk rest _ _ h
            · cases h

/-! ### Code -/
def blockB (id : Nat) (K : Ex → S → Bool) : Ex → S → Bool
  | .exit i, s => if i = id then K .normal s else K (.exit i) s
  | ex, s => K ex s

def codeB (P : Program) (call : CallB) (base N : Nat) : Nat → Code → S → (Ex → S → Bool) → Bool
  | 0, _, _, _ => false
  | n + 1, c, s, K => match c with
    | .skip => K .normal s
    | .seq x y => codeB P call base N n x s fun ex s' => match ex with | .normal => codeB P call base N n y s' K | ex => K ex s'
    | .region _ ops false => opsOk N ops.toList && opsB P call base ops (fun s' => K .normal s') (fun v s' => K (.pan v) s') ops.toList s
    | .region _ ops true => opsOk N ops.toList && drawOk ops (mkD ops) (planD ops) && drawB P call base ops (mkD ops) (fun o s' => match o with | none => K .normal s' | some v => K (.pan v) s') (planD ops) s []
    | .cond c x y => match ρV s.σ c with | .bool true => codeB P call base N n x s K | .bool false => codeB P call base N n y s K | _ => false
    | .block id c => codeB P call base N n c s (blockB id K)
    | .loop c => codeB P call base N n c s fun ex s' => match ex with | .normal => codeB P call base N n (.loop c) s' K | ex => K ex s'
    | .exit i => K (.exit i) s
    | .ret => K .ret s
    | _ => false

section
variable {P : Program}

theorem codeB_sound (hm : P.follows .mixedOrders = true) {call : CallB} (hc : CallOk P call) {base N : Nat} : ∀ (n : Nat) (c : Code) (s : S) (K : Ex → S → Bool), codeB P call base N n c s K = true → NWp P base N c (fun ex s' => K ex s' = true) s := by
  intro n
  induction n using Nat.strongRecOn with
  | _ n ih =>
  intro c s K h
  cases n with
  | zero => simp [codeB] at h
  | succ n =>
    cases c with
    | skip => simp only [codeB] at h; exact nwp_skip h
    | seq x y =>
      simp only [codeB] at h
      refine nwp_seq ((ih n (Nat.lt_succ_self n) x s _ h).mono ?_)
      intro ex s' hq
      cases ex with
      | normal => exact ih n (Nat.lt_succ_self n) y s' K hq
      | _ => exact hq
    | region id ops d =>
      have e : ops = ops.toList.toArray := by simp
      cases d with
      | false =>
        simp only [codeB, Bool.and_eq_true] at h
        rw [e]
        refine nwp_region h.1 ?_
        rw [← e]
        exact opsB_sound hc (fun s hs => hs) (fun v s hs => hs) _ _ (dstOk_of_opsOk h.1) h.2
      | true =>
        simp only [codeB, Bool.and_eq_true] at h
        obtain ⟨⟨h1, h2⟩, h3⟩ := h
        rw [e]
        refine nwp_draw (mkD ops) (planD ops) hm h1 (by simpa using h2) ?_
        rw [← e]
        refine drawB_sound hc (fun i o ho => dstOk_of_opsOk h1 o ?_) (fun o s hs => by cases o <;> exact hs) _ _ _ h3
        have := Array.mem_of_getElem? ho
        simpa using this
    | cond c x y =>
      simp only [codeB] at h
      split at h
      · rename_i q; exact nwp_cond q (ih n (Nat.lt_succ_self n) x s K h)
      · rename_i q; exact nwp_cond q (ih n (Nat.lt_succ_self n) y s K h)
      · cases h
    | block id c =>
      simp only [codeB] at h
      refine nwp_block ((ih n (Nat.lt_succ_self n) c s _ h).mono ?_)
      intro ex s' hq
      cases ex with
      | exit i => simp only [blockB] at hq; simp only [blockQ]; split at hq <;> simp_all
      | _ => exact hq
    | loop c =>
      refine nwp_loop (fun m s => m ≤ n + 1 ∧ codeB P call base N m (.loop c) s K = true) (n := n + 1) ⟨Nat.le_refl _, h⟩ ?_
      rintro m s ⟨hm, hq⟩
      cases m with
      | zero => simp [codeB] at hq
      | succ m =>
        simp only [codeB] at hq
        refine (ih m (by omega) c s _ hq).mono ?_
        intro ex s' hq
        cases ex with
        | normal => exact ⟨m, Nat.lt_succ_self m, by omega, hq⟩
        | _ => exact hq
    | exit i => simp only [codeB] at h; exact nwp_exit h
    | ret => simp only [codeB] at h; exact nwp_ret h
    | _ => simp [codeB] at h

/-! ### Calls -/
def oneDefer (ops : List Oper) : Bool := ops.any fun o => match o.op with | .defer _ => true | _ => false
def codeDefers : Code → Bool
  | .region _ ops _ => oneDefer ops.toList
  | .seq x y => codeDefers x || codeDefers y
  | .cond _ x y => codeDefers x || codeDefers y
  | .block _ c => codeDefers c
  | .loop c => codeDefers c
  | _ => false

def endB (P : Program) (rs : List ResultVar) (K : Res → Heap → Bool) (s : S) : Bool :=
  match resVs P s rs with | some vs => K (.ret (oneV vs)) s.H | none => false

def bodyKB (P : Program) (rs : List ResultVar) (K : Res → Heap → Bool) : Ex → S → Bool
  | .normal, s | .ret, s => match s.D with | [] => endB P rs K s | _ => false
  | .pan v, s => match s.D with | [] => K (.pan v) s.H | _ => false
  | .exit _, _ => false

def codeDB (P : Program) (call : CallB) (base N n : Nat) (rv : V) : Code → S → (Ex → S → Bool) → Bool
  | .seq x y, s, K => codeDB P call base N n rv x s fun ex s' => match ex with | .normal => codeB P call base N n y s' K | ex => K ex s'
  | .region _ ops false, s, K => opsOk N ops.toList && match ops.toList with
    | o :: rest => isRecover o && opsB P call base ops (fun s' => K .normal s') (fun v s' => K (.pan v) s') rest ⟨upd s.σ o.dst rv, s.H, s.D⟩
    | [] => false
  | _, _, _ => false

theorem codeDB_sound (hm : P.follows .mixedOrders = true) {call : CallB} (hc : CallOk P call) {base N n : Nat} {rv : V} : ∀ (c : Code) (s : S) (K : Ex → S → Bool) (Q : Ex → S → Prop), (∀ ex s', K ex s' = true → Q ex s') → codeDB P call base N n rv c s K = true → NWpD P base N rv c Q s
  | .seq x y, s, K, Q, hk, h => by
    simp only [codeDB] at h
    simp only [NWpD]
    refine codeDB_sound hm hc x s _ _ ?_ h
    intro ex s' hq
    cases ex with
    | normal => exact (codeB_sound hm hc n y s' K hq).mono hk
    | _ => exact hk _ _ hq
  | .region id ops false, s, K, Q, hk, h => by
    simp only [codeDB, Bool.and_eq_true] at h
    simp only [NWpD]
    refine ⟨h.1, ?_⟩
    have h2 := h.2
    split at h2
    · rename_i o rest q
      simp only [Bool.and_eq_true] at h2
      have hd := dstOk_of_opsOk h.1
      simp only [q] at hd ⊢
      exact ⟨h2.1, opsB_sound hc (fun s hs => hk _ _ hs) (fun v s hs => hk _ _ hs) _ _ (fun o ho => hd o (List.mem_cons_of_mem _ ho)) h2.2⟩
    · cases h2
  | .region _ _ true, _, _, _, _, h => by simp [codeDB] at h
  | .skip, _, _, _, _, h => by simp [codeDB] at h
  | .cond .., _, _, _, _, h => by simp [codeDB] at h
  | .block .., _, _, _, _, h => by simp [codeDB] at h
  | .loop _, _, _, _, _, h => by simp [codeDB] at h
  | .rangeFunc .., _, _, _, _, h => by simp [codeDB] at h
  | .exit _, _, _, _, _, h => by simp [codeDB] at h
  | .scope _, _, _, _, _, h => by simp [codeDB] at h
  | .label _, _, _, _, _, h => by simp [codeDB] at h
  | .goto _, _, _, _, _, h => by simp [codeDB] at h
  | .ret, _, _, _, _, h => by simp [codeDB] at h
  | .refuse _, _, _, _, _, h => by simp [codeDB] at h

def laterB (P : Program) (call : CallB) (n base : Nat) (fn : Func) (rv : V) (s : S) (K : Res → Heap → Bool) : Bool :=
  match s.D with
  | [(g, cap)] => fnT P g && match P.funcs[g]? with
    | none => false
    | some gn => match gn.body with
      | none => false
      | some c => gn.results.isEmpty && decide (cap.length ≤ gn.ntmps) &&
        codeDB P call base gn.ntmps n rv c ⟨σ0 cap, s.H, []⟩ fun ex s2 => match ex with
          | .normal | .ret => match s2.D with | [] => endB P fn.results.toList K ⟨s.σ, s2.H, []⟩ | _ => false
          | _ => false
  | _ => false

def runB (P : Program) (call : CallB) (n base : Nat) (fn : Func) (c : Code) (args : List V) (H : Heap) (K : Res → Heap → Bool) : Bool :=
  if codeDefers c = true then codeB P call base fn.ntmps n c ⟨σ0 args, H, []⟩ fun ex s => match ex with
    | .normal | .ret => laterB P call n base fn .nili s K
    | .pan v => laterB P call n base fn v s K
    | .exit _ => false
  else codeB P call base fn.ntmps n c ⟨σ0 args, H, []⟩ (bodyKB P fn.results.toList K)

/-- A function's call, reckoned. 'still': the functions that are told to leave nothing behind. -/
def callB (P : Program) (still : FuncId → Bool) : Nat → CallB
  | 0 => fun _ _ _ _ _ => false
  | n + 1 => fun base f args H K => match P.funcs[f]? with
    | none => false
    | some fn => match fn.body with
      | none => false
      | some c => decide (args.length ≤ fn.ntmps) &&
        if still f = true then runB P (callB P still n) (n + 1) H.n fn c args H fun r H' => match frzR H.n H' r with | some r' => K r' H | none => false
        else runB P (callB P still n) (n + 1) base fn c args H K

theorem callB_sound (hm : P.follows .mixedOrders = true) (still : FuncId → Bool) : ∀ n, CallOk P (callB P still n) := by
  intro n
  induction n with
  | zero => intro base f args H K h; simp [callB] at h
  | succ n ih =>
    have later : ∀ {base : Nat} {fn : Func} {rv : V} {s : S} {K : Res → Heap → Bool}, laterB P (callB P still n) (n + 1) base fn rv s K = true →
        ∃ g cap, s.D = [(g, cap)] ∧ fnT P g = true ∧ DCall P base g cap rv s.H fun H' => match resVs P ⟨s.σ, H', []⟩ fn.results.toList with | some vs => K (.ret (oneV vs)) H' = true | none => False := by
      intro base fn rv s K h
      unfold laterB at h
      split at h
      · rename_i g cap hD
        simp only [Bool.and_eq_true] at h
        obtain ⟨h1, h2⟩ := h
        refine ⟨g, cap, hD, h1, ?_⟩
        split at h2
        · cases h2
        · rename_i gn hg
          split at h2
          · cases h2
          · rename_i c hb
            simp only [Bool.and_eq_true, decide_eq_true_eq] at h2
            obtain ⟨⟨h3, h4⟩, h5⟩ := h2
            refine ⟨gn, c, hg, hb, by simpa using h3, h4, ?_⟩
            refine codeDB_sound hm ih c _ _ _ ?_ h5
            intro ex s2 hq
            have fin : (match s2.D with | [] => endB P fn.results.toList K ⟨s.σ, s2.H, []⟩ | _ => false) = true → s2.D = [] ∧ (match resVs P ⟨s.σ, s2.H, []⟩ fn.results.toList with | some vs => K (.ret (oneV vs)) s2.H = true | none => False) := by
              intro hq
              split at hq
              · rename_i hD2
                refine ⟨hD2, ?_⟩
                unfold endB at hq
                split at hq
                · exact hq
                · cases hq
              · cases hq
            cases ex with
            | normal => exact fin hq
            | ret => exact fin hq
            | _ => cases hq
      · cases h
    have run : ∀ {base : Nat} {f : FuncId} {fn : Func} {c : Code} {args : List V} {H : Heap} {K : Res → Heap → Bool}, P.funcs[f]? = some fn → fn.body = some c → args.length ≤ fn.ntmps → runB P (callB P still n) (n + 1) base fn c args H K = true →
        NCall P base f args H fun r H' => K r H' = true := by
      intro base f fn c args H K hf hb hn h
      unfold runB at h
      split at h
      · refine ncall_defer hf hb hn ((codeB_sound hm ih _ _ _ _ h).mono ?_)
        intro ex s hq
        cases ex with
        | normal => exact later hq
        | ret => exact later hq
        | pan v => exact later hq
        | exit i => cases hq
      · refine ncall_body hf hb hn ((codeB_sound hm ih _ _ _ _ h).mono ?_)
        intro ex s hq
        have fin : (match s.D with | [] => endB P fn.results.toList K s | _ => false) = true → s.D = [] ∧ (match resVs P s fn.results.toList with | some vs => K (.ret (oneV vs)) s.H = true | none => False) := by
          intro hq
          split at hq
          · rename_i hD
            refine ⟨hD, ?_⟩
            unfold endB at hq
            split at hq
            · exact hq
            · cases hq
          · cases hq
        cases ex with
        | normal => exact fin hq
        | ret => exact fin hq
        | pan v =>
          simp only [bodyKB] at hq
          split at hq
          · rename_i hD; exact ⟨hD, hq⟩
          · cases hq
        | exit i => cases hq
    intro base f args H K h
    simp only [callB] at h
    split at h
    · cases h
    · rename_i fn hf
      split at h
      · cases h
      · rename_i c hb
        simp only [Bool.and_eq_true, decide_eq_true_eq] at h
        obtain ⟨hn, h⟩ := h
        split at h
        · refine ncall_pure ((run hf hb hn h).mono ?_)
          intro r H' hq
          split at hq
          · rename_i r' q; exact ⟨r', q, hq⟩
          · cases hq
        · exact run hf hb hn h

end
end Go.Ns

/- Ns, part Zc: from a call of the abstract program to the rows' words: what the world was, stands. -/
namespace Go.Ns

/-- The abstract heap that has nothing yet. -/
def E0 : Heap := ⟨0, fun _ => none⟩

/-- All that is there is frozen. -/
def Cx.start (W : World) : Cx := { L := fun _ => .pend, FB := fun b => b < W.heap.size, w := W }

theorem hr_start (W : World) : HR (Cx.start W) E0 :=
  ⟨fun _ _ => rfl, fun _ _ _ h => by simp [Cx.start] at h, fun _ h => by simp [Cx.start] at h, fun _ _ _ _ _ h => by simp [Cx.start] at h, fun _ h => h⟩

theorem kept_of_ext {base : Nat} {W : World} {X : Cx} (e : Ext base (Cx.start W) X) : W.keptBut X.w (fun _ => False) := by
  refine ⟨e.os, e.output, fun i hi => ?_⟩
  have h := e.frozen i hi
  simp only [Cx.start] at h
  rw [h]
  split
  · rename_i q1 q2; rw [q1] at q2; cases q2; exact ⟨rfl, rfl, rfl, fun _ _ => rfl⟩
  · rename_i q1 q2; rw [q1] at q2; cases q2; exact .inr ⟨rfl, rfl⟩
  · rfl

theorem said_calls {P : Program} {f : FuncId} {args : List V} {rargs : Array Value} {W : World} (h : NCall P 0 f args E0 fun r _ => r = .ret (.bool true)) (ha : RL (Cx.start W) args rargs.toList) :
    Calls P f rargs W fun e W' => e = .returned (.bool true) ∧ W.keptBut W' (fun _ => False) := by
  have := h (Cx.start W) rargs.toList (hr_start W) ha (Nat.zero_le _)
  refine (show Calls P f rargs.toList.toArray (Cx.start W).w _ from this).mono ?_
  rintro e w' ⟨r, H', X', rfl, hres, rfl, _, he, _⟩
  refine ⟨?_, kept_of_ext he⟩
  cases e with
  | returned rv =>
    simp only [ResR] at hres
    cases hres
    rfl
  | panicked ch => exact hres.elim
  | outgrown => exact hres.elim

end Go.Ns

namespace Go.Ns
open Go.ChangeShapes Go.WideShapes
section
variable {H : Type} {enc : TypeId × Value → H} {P : Program}

/-- The law's row, where nothing that was there is changed (and nothing is asked again). -/
theorem post_kept {f : Func} {s : ChangeSpec} {apart fresh handsOn : Bool} {W W' : World} {args : Array Value} {v : Value} {ds gs : List (DataW H)} {before pa pv : List MemPlace}
    (hW : DataW.Whole enc P f.params.toList s.vars apart W args.toList ds gs before)
    (hres : ∀ (b : Nat) (sp : Nat → Bool) (hd : Bool), DataW.TrodAll enc P W' b sp hd f.resultTypes.toList (v.resultList f.resultTypes.size) (s.fn H (ds ++ gs)).results [])
    (hargs : ∀ sp : Nat → Bool, (∀ p ∈ before, sp p.block = true) → DataW.TrodAll enc P W' 0 sp true f.params.toList args.toList (s.fn H (ds ++ gs)).args pa)
    (hvars : ∀ sp : Nat → Bool, (∀ p ∈ before, sp p.block = true) → DataW.TrodVars enc P W' sp s.vars (s.fn H (ds ++ gs)).vars pv)
    (hps : before = pa ++ pv) (hk : W.keptBut W' (· ∈ before)) :
    s.post enc P f apart fresh handsOn false W args v W' := by
  have hold : ∀ p ∈ before, (fun b => decide (b < W.heap.size)) p.block = true := fun p hp => by simpa using hW.lt p hp
  refine ⟨ds, gs, before, [], pa, pv, hW, hres _ _ _, hargs _ hold, hvars _ hold, World.keptBut_mono (fun p hp => ⟨hp, ?_⟩) hk, fun h => by cases h⟩
  rw [hps, List.mem_append] at hp
  exact Or.inr hp
end
end Go.Ns

