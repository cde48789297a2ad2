/- A logic of the model's calls, part 0. -/
import Derived.Calls
import Derived.Laws.Cells
import Derived.Laws.StructEq
import Derived.Laws.Tables
import Derived.DeepKeys
import Derived.Laws.CopyRow
/- Ns, part A: the abstract values, the abstract heap, how they stand for the model's values and world, and that this is kept as the world goes on. -/
namespace Go.Ns

/-- An abstract value. Aggregates are flat, as the model's. A frozen slice ('fsl') bears its cells; 'ex': its capacity is its length. A heap slice ('hsl') leads to a block of the abstract heap; 'ex': its capacity is 'c', else it is at least 'c'. -/
inductive V where
  | undef
  | bool (b : Bool)
  | int (k : IntKind) (n : Int)
  | flt (k : FloatKind) (b : Nat)
  | str (s : ByteArray)
  | nilp
  | ptr (id g off : Nat)
  | fptr (cs : List V)
  | nils
  | fsl (ex : Bool) (n : Nat) (cs : List V)
  | hsl (id g off n sz : Nat) (ex : Bool) (c : Nat)
  | nilm
  | map (id : Nat)
  | nilf
  | fn (f : FuncId) (cap : List V)
  | nili
  | ifc (t : TypeId) (v : V)
  | agg (cs : List V)
  | tup (cs : List V)
  deriving Inhabited

/-- May it stand in a cell? -/
def V.cell : V → Bool
  | .undef | .agg _ | .tup _ => false
  | _ => true

/-- What an abstract block's number stands for: nothing yet; nothing any more; block b of the world, as it is in its g-th state. -/
inductive Link where
  | pend
  | dead
  | live (b g : Nat)

inductive HObj where
  | cells (g : Nat) (cs : List V)
  | map (es : List (V × V × Nat)) (clock : Nat)
  | iter (m : Option Nat) (since : Nat) (seen : Array Nat) (stepped : Nat)
  deriving Inhabited

structure Heap where
  n : Nat
  get : Nat → Option HObj

def Heap.set (H : Heap) (id : Nat) (o : HObj) : Heap := { H with get := fun j => if j = id then some o else H.get j }
def Heap.kill (H : Heap) (id : Nat) : Heap := { H with get := fun j => if j = id then none else H.get j }
def Heap.new (H : Heap) (o : HObj) : Heap := { n := H.n + 1, get := fun j => if j = H.n then some o else H.get j }

structure Cx where
  L : Nat → Link
  FB : Nat → Prop
  w : World

def PLink (l : Link) (g : Nat) (p : Nat → Prop) : Prop :=
  match l with
  | .live b g' => g ≤ g' ∧ (g' = g → p b)
  | .dead => True
  | .pend => False

/-- Does a row begin with a tuple? (So a function value's bound arguments stand ahead of what it holds.) -/
def hdT : List V → Bool
  | .tup _ :: _ => true
  | _ => false

mutual
inductive R (X : Cx) : V → Value → Prop
  | undef (rv : Value) : R X .undef rv
  | bool (b : Bool) : R X (.bool b) (.bool b)
  | int (k : IntKind) (n : Int) : R X (.int k n) (.int k n)
  | flt (k : FloatKind) (b : Nat) : R X (.flt k b) (.float k b)
  | str (s : ByteArray) : R X (.str s) (.string s)
  | nilp : R X .nilp (.pointer none)
  | ptr (id g off : Nat) (a : Addr) : a.spot = none → PLink (X.L id) g (fun b => a.block = b ∧ a.off = off) → R X (.ptr id g off) (.pointer (some a))
  | fptr (cs : List V) (a : Addr) (rs : List Value) : cs.all V.cell = true → a.spot = none → X.FB a.block → (∀ j v, rs[j]? = some v → X.w.cell? ⟨a.block, a.off + j, none⟩ = some v) → RL X cs rs →
      R X (.fptr cs) (.pointer (some a))
  | nils : R X .nils (.slice none 0 0)
  | fsl (ex : Bool) (n : Nat) (cs : List V) (a : Addr) (rs : List Value) (cap : Nat) : cs.all V.cell = true → a.spot = none → X.FB a.block → n ≤ cap → (ex = true → cap = n) →
      (∀ j v, rs[j]? = some v → X.w.cell? ⟨a.block, a.off + j, none⟩ = some v) → RL X cs rs → R X (.fsl ex n cs) (.slice (some a) n cap)
  | emp (a : Addr) (cap : Nat) : R X (.fsl false 0 []) (.slice (some a) 0 cap)
  | emp0 (a : Addr) : R X (.fsl true 0 []) (.slice (some a) 0 0)
  | hsl (id g off n sz : Nat) (ex : Bool) (c : Nat) (a : Addr) (cap : Nat) : a.spot = none → n ≤ cap → (ex = true → cap = c) → c ≤ cap →
      PLink (X.L id) g (fun b => a.block = b ∧ a.off = off ∧ ∃ e m, X.w.shape? b = some (e, m) ∧ off + cap * sz ≤ m) → R X (.hsl id g off n sz ex c) (.slice (some a) n cap)
  | nilm : R X .nilm (.map none)
  | map (id r : Nat) : PLink (X.L id) 0 (fun b => r = b) → R X (.map id) (.map (some r))
  | nilf : R X .nilf .nilFunc
  | fn (f : FuncId) (cs : List V) (rs : List Value) : hdT cs = false → RL X cs rs → R X (.fn f cs) (.func (.func f) #[] rs.toArray)
  | fnb (f : FuncId) (fs cs : List V) (rfs rs : List Value) : RL X fs rfs → RL X cs rs → R X (.fn f (.tup fs :: cs)) (.func (.func f) rfs.toArray rs.toArray)
  | nili : R X .nili .nilIface
  | ifc (t : TypeId) (v : V) (rv : Value) : R X v rv → R X (.ifc t v) (.iface t rv)
  | agg (cs : List V) (rs : List Value) : cs.all V.cell = true → RL X cs rs → R X (.agg cs) (.agg rs.toArray)
  | tup (cs : List V) (rs : List Value) : RL X cs rs → R X (.tup cs) (.tuple rs.toArray)
inductive RL (X : Cx) : List V → List Value → Prop
  | nil : RL X [] []
  | cons (v : V) (rv : Value) (vs : List V) (rvs : List Value) : R X v rv → RL X vs rvs → RL X (v :: vs) (rv :: rvs)
end

def LinkLe (l l' : Link) : Prop :=
  match l with
  | .pend => True
  | .dead => l' = .dead
  | .live b g => l' = .live b g ∨ (∃ b' g', l' = .live b' g' ∧ g < g') ∨ l' = .dead

theorem LinkLe.refl (l : Link) : LinkLe l l := by cases l <;> simp [LinkLe]

theorem LinkLe.trans {a b c : Link} (h : LinkLe a b) (k : LinkLe b c) : LinkLe a c := by
  cases a with
  | pend => trivial
  | dead => simp only [LinkLe] at h; subst h; simpa [LinkLe] using k
  | live b1 g1 =>
    simp only [LinkLe] at h
    rcases h with h | ⟨b', g', h, hlt⟩ | h
    · subst h; exact k
    · subst h
      simp only [LinkLe] at k ⊢
      rcases k with k | ⟨b'', g'', k, hlt'⟩ | k
      · exact .inr (.inl ⟨b', g', k, hlt⟩)
      · exact .inr (.inl ⟨b'', g'', k, by omega⟩)
      · exact .inr (.inr k)
    · subst h; simp only [LinkLe] at k ⊢; exact .inr (.inr k)

theorem PLink.mono {l l' : Link} {g : Nat} {p p' : Nat → Prop} (h : PLink l g p) (hl : LinkLe l l') (hp : ∀ b, p b → p' b) : PLink l' g p' := by
  cases l with
  | pend => exact h.elim
  | dead => simp only [LinkLe] at hl; subst hl; trivial
  | live b g1 =>
    obtain ⟨h1, h2⟩ := h
    rcases hl with hl | ⟨b', g', hl, hlt⟩ | hl
    · subst hl; exact ⟨h1, fun e => hp _ (h2 e)⟩
    · subst hl; exact ⟨by omega, fun e => by omega⟩
    · subst hl; trivial

/-- The world has gone on: what is frozen stands, blocks keep their size, links only die or go on; links below 'base' stand. -/
structure Ext (base : Nat) (X X' : Cx) : Prop where
  links : ∀ id, LinkLe (X.L id) (X'.L id)
  low : ∀ id, id < base → X'.L id = X.L id
  fb : ∀ b, X.FB b → X'.FB b
  frozen : ∀ b, X.FB b → X'.w.heap[b]? = X.w.heap[b]?
  shapes : ∀ b s, X.w.shape? b = some s → X'.w.shape? b = some s
  size : X.w.heap.size ≤ X'.w.heap.size
  os : X'.w.os = X.w.os
  tape : X'.w.tape = X.w.tape
  output : X'.w.output = X.w.output

theorem Ext.refl (base : Nat) (X : Cx) : Ext base X X :=
  ⟨fun _ => .refl _, fun _ _ => rfl, fun _ h => h, fun _ _ => rfl, fun _ _ h => h, Nat.le_refl _, rfl, rfl, rfl⟩

theorem Ext.trans {base : Nat} {X Y Z : Cx} (h : Ext base X Y) (k : Ext base Y Z) : Ext base X Z :=
  ⟨fun id => (h.links id).trans (k.links id), fun id hi => (k.low id hi).trans (h.low id hi), fun b hb => k.fb b (h.fb b hb),
   fun b hb => (k.frozen b (h.fb b hb)).trans (h.frozen b hb), fun b s hs => k.shapes b s (h.shapes b s hs), Nat.le_trans h.size k.size,
   k.os.trans h.os, k.tape.trans h.tape, k.output.trans h.output⟩

theorem Ext.mono {base base' : Nat} {X Y : Cx} (h : Ext base X Y) (hb : base' ≤ base) : Ext base' X Y :=
  { h with low := fun id hi => h.low id (Nat.lt_of_lt_of_le hi hb) }

theorem cell?_of_heap {w w' : World} {a : Addr} (h : w'.heap[a.block]? = w.heap[a.block]?) : w'.cell? a = w.cell? a := by
  simp only [World.cell?, h]

mutual
theorem R.mono {base : Nat} {X X' : Cx} (e : Ext base X X') : ∀ {v : V} {rv : Value}, R X v rv → R X' v rv
  | _, _, .undef rv => .undef rv
  | _, _, .bool b => .bool b
  | _, _, .int k n => .int k n
  | _, _, .flt k b => .flt k b
  | _, _, .str s => .str s
  | _, _, .nilp => .nilp
  | _, _, .ptr id g off a hs hl => .ptr id g off a hs (hl.mono (e.links id) fun _ h => h)
  | _, _, .fptr cs a rs ha hs hf hc hr => .fptr cs a rs ha hs (e.fb _ hf) (fun j v hj => by rw [cell?_of_heap (w := X.w) (by exact e.frozen _ hf)]; exact hc j v hj) (RL.mono e hr)
  | _, _, .nils => .nils
  | _, _, .fsl ex n cs a rs cap ha hs hf hn hx hc hr => .fsl ex n cs a rs cap ha hs (e.fb _ hf) hn hx (fun j v hj => by rw [cell?_of_heap (w := X.w) (by exact e.frozen _ hf)]; exact hc j v hj) (RL.mono e hr)
  | _, _, .emp a cap => .emp a cap
  | _, _, .emp0 a => .emp0 a
  | _, _, .hsl id g off n sz ex c a cap hs hn hx hc hl => .hsl id g off n sz ex c a cap hs hn hx hc (hl.mono (e.links id) fun b ⟨h1, h2, e', m, h3, h4⟩ => ⟨h1, h2, e', m, e.shapes b _ h3, h4⟩)
  | _, _, .nilm => .nilm
  | _, _, .map id r hl => .map id r (hl.mono (e.links id) fun _ h => h)
  | _, _, .nilf => .nilf
  | _, _, .fn f cs rs ht hr => .fn f cs rs ht (RL.mono e hr)
  | _, _, .fnb f fs cs rfs rs h1 h2 => .fnb f fs cs rfs rs (RL.mono e h1) (RL.mono e h2)
  | _, _, .nili => .nili
  | _, _, .ifc t v rv hr => .ifc t v rv (R.mono e hr)
  | _, _, .agg cs rs ha hr => .agg cs rs ha (RL.mono e hr)
  | _, _, .tup cs rs hr => .tup cs rs (RL.mono e hr)
theorem RL.mono {base : Nat} {X X' : Cx} (e : Ext base X X') : ∀ {vs : List V} {rvs : List Value}, RL X vs rvs → RL X' vs rvs
  | _, _, .nil => .nil
  | _, _, .cons v rv vs rvs h1 h2 => .cons v rv vs rvs (R.mono e h1) (RL.mono e h2)
end

theorem RL.length {X : Cx} : ∀ {vs : List V} {rvs : List Value}, RL X vs rvs → vs.length = rvs.length
  | _, _, .nil => rfl
  | _, _, .cons _ _ _ _ _ h => by simp [h.length]

theorem RL.get {X : Cx} : ∀ {vs : List V} {rvs : List Value} (_ : RL X vs rvs) (j : Nat) {v : V}, vs[j]? = some v → ∃ rv, rvs[j]? = some rv ∧ R X v rv
  | _, _, .nil, j, v, h => by simp at h
  | _, _, .cons v0 rv0 _ _ h0 h1, 0, v, h => by simp at h; subst h; exact ⟨rv0, rfl, h0⟩
  | _, _, .cons v0 rv0 _ _ h0 h1, j + 1, v, h => by simp at h; simpa using h1.get j h

theorem RL.take {X : Cx} : ∀ {vs : List V} {rvs : List Value} (_ : RL X vs rvs) (n : Nat), RL X (vs.take n) (rvs.take n)
  | _, _, .nil, n => by simpa using RL.nil
  | _, _, .cons _ _ _ _ h0 h1, 0 => by simpa using RL.nil
  | _, _, .cons _ _ _ _ h0 h1, n + 1 => by simpa using RL.cons _ _ _ _ h0 (h1.take n)

theorem RL.drop {X : Cx} : ∀ {vs : List V} {rvs : List Value} (_ : RL X vs rvs) (n : Nat), RL X (vs.drop n) (rvs.drop n)
  | _, _, .nil, n => by simpa using RL.nil
  | _, _, .cons _ _ _ _ h0 h1, 0 => .cons _ _ _ _ h0 h1
  | _, _, .cons _ _ _ _ h0 h1, n + 1 => by simpa using h1.drop n

theorem RL.append {X : Cx} : ∀ {a : List V} {ra : List Value} (_ : RL X a ra) {b : List V} {rb : List Value} (_ : RL X b rb), RL X (a ++ b) (ra ++ rb)
  | _, _, .nil, _, _, h => h
  | _, _, .cons _ _ _ _ h0 h1, _, _, h => .cons _ _ _ _ h0 (h1.append h)

theorem RL.of_get {X : Cx} : ∀ {vs : List V} {rvs : List Value}, vs.length = rvs.length → (∀ (j : Nat) (v : V) (rv : Value), vs[j]? = some v → rvs[j]? = some rv → R X v rv) → RL X vs rvs
  | [], [], _, _ => .nil
  | v :: vs, rv :: rvs, hl, h => .cons _ _ _ _ (h 0 v rv rfl rfl) (RL.of_get (by simpa using hl) fun j v rv h1 h2 => h (j + 1) v rv (by simpa using h1) (by simpa using h2))
  | [], _ :: _, hl, _ => by simp at hl
  | _ :: _, [], hl, _ => by simp at hl

/-- An abstract object and a block of the world. -/
def ObjR (X : Cx) : HObj → Nat → Obj → Prop
  | .cells g' cs, g, .cells c _ fz => g' = g ∧ cs.all V.cell = true ∧ cs.length ≤ c.size ∧ (∀ (j : Nat) (v : V) (rv : Value), cs[j]? = some v → c[j]? = some rv → R X v rv) ∧ ∀ o, o < c.size → ¬ (fz.1 ≤ o ∧ o < fz.2)
  | .map es clock, g, .map es' clock' => g = 0 ∧ clock' = clock ∧ es'.size = es.length ∧
      ∀ (j : Nat) (e : V × V × Nat) (e' : MapEntry), es[j]? = some e → es'[j]? = some e' → R X e.1 e'.key ∧ R X e.2.1 e'.val ∧ e'.born = e.2.2
  | .iter m since seen stepped, g, .mapIter m' since' seen' stepped' => g = 0 ∧ since' = since ∧ seen' = seen ∧ stepped' = stepped ∧
      (match m, m' with | none, none => True | some id, some r => PLink (X.L id) 0 (fun b => r = b) | _, _ => False)
  | _, _, _ => False

theorem ObjR.mono {base : Nat} {X X' : Cx} {o : HObj} {g : Nat} {ob : Obj} (h : ObjR X o g ob) (e : Ext base X X') : ObjR X' o g ob := by
  cases o with
  | cells g' cs =>
    cases ob <;> simp only [ObjR] at h ⊢
    obtain ⟨h1, h0, h2, h3, h4⟩ := h
    exact ⟨h1, h0, h2, fun j v rv hv hr => R.mono e (h3 j v rv hv hr), h4⟩
  | map es clock =>
    cases ob <;> simp only [ObjR] at h ⊢
    obtain ⟨h0, h1, h2, h3⟩ := h
    exact ⟨h0, h1, h2, fun j a b ha hb => let ⟨p, q, r⟩ := h3 j a b ha hb; ⟨R.mono e p, R.mono e q, r⟩⟩
  | iter m since seen stepped =>
    cases ob <;> simp only [ObjR] at h ⊢
    rename_i m' _ _ _
    obtain ⟨h0, h1, h2, h3, h4⟩ := h
    refine ⟨h0, h1, h2, h3, ?_⟩
    cases m <;> cases m' <;> simp only at h4 ⊢
    exact h4.mono (e.links _) fun _ h => h

/-- The abstract heap stands for the world. -/
structure HR (X : Cx) (H : Heap) : Prop where
  fresh : ∀ id, H.n ≤ id → X.L id = .pend
  live : ∀ id b g, X.L id = .live b g → ∃ o ob, H.get id = some o ∧ X.w.heap[b]? = some ob ∧ ¬ X.FB b ∧ ObjR X o g ob
  dead : ∀ id, X.L id = .dead → H.get id = none
  inj : ∀ i j b g g', X.L i = .live b g → X.L j = .live b g' → i = j
  fbs : ∀ b, X.FB b → b < X.w.heap.size

end Go.Ns

/- Ns, part B: the operations that only compute or read: each tells an abstract value, and the model's operation tells one that it stands for. -/
namespace Go.Ns

/-! ### What is asked of types -/
def szT (P : Program) (t : TypeId) : Option Nat := (P.info? t).map (·.size)
def aggT (P : Program) (t : TypeId) : Option Bool :=
  match P.underlying t with
  | some (.struct _) | some (.array _ _) => some true
  | some _ => some false
  | none => none
/-- A field: its offset, its type's size, is it an aggregate. -/
def fldT (P : Program) (t : TypeId) (i : Nat) : Option (Nat × Nat × Bool) :=
  match P.underlying t with
  | some (.struct fs) => (fs[i]?).bind fun f => (szT P f.type).bind fun s => (aggT P f.type).map fun g => (f.offset, s, g)
  | _ => none
/-- An array type: how many elements, an element's size, is it an aggregate. -/
def arrT (P : Program) (t : TypeId) : Option (Nat × Nat × Bool) :=
  match P.underlying t with
  | some (.array n e) => (szT P e).bind fun s => (aggT P e).map fun g => (n, s, g)
  | _ => none
/-- A slice type: an element's type, its cells, its bytes. -/
def slcT (P : Program) (t : TypeId) : Option (TypeId × Nat × Nat) :=
  match P.underlying t with
  | some (.slice e) => (P.info? e).map fun i => (e, i.size, i.bytes)
  | _ => none
def strT (P : Program) (t : TypeId) : Bool := match P.underlying t with | some .string => true | _ => false

def vconst : Value → V
  | .bool b => .bool b
  | .int k n => .int k n
  | .float k b => .flt k b
  | .string s => .str s
  | .pointer none => .nilp
  | .slice none 0 0 => .nils
  | .map none => .nilm
  | .nilFunc => .nilf
  | .nilIface => .nili
  | _ => .undef

theorem R.vconst (X : Cx) (v : Value) : R X (vconst v) v := by
  unfold Ns.vconst
  split <;> constructor

/-- A type's zero value. -/
def zvT (P : Program) (t : TypeId) : Option V :=
  (P.info? t).bind fun i => i.zero.bind fun z =>
    match z with
    | .agg c => if (c.toList.map vconst).all V.cell = true then some (.agg (c.toList.map vconst)) else none
    | .tuple _ => none
    | z => if (vconst z).cell = true then some (vconst z) else none

section
variable {P : Program} {X : Cx} {H : Heap}

theorem szT_info {t : TypeId} {s : Nat} (h : szT P t = some s) : ∃ i, P.info? t = some i ∧ i.size = s := by
  simpa [szT] using h

theorem run_typeInfo {t : TypeId} {i : TypeInfo} (h : P.info? t = some i) (w : World) : (typeInfo t).run P w = .ok i w := by simp [typeInfo, h]

theorem run_sizeOf {t : TypeId} {s : Nat} (h : szT P t = some s) (w : World) : (sizeOf t).run P w = .ok s w := by
  obtain ⟨i, hi, rfl⟩ := szT_info h
  simp [sizeOf, run_typeInfo hi]

theorem run_isAgg {t : TypeId} {g : Bool} (h : aggT P t = some g) (w : World) : (isAgg t).run P w = .ok g w := by
  unfold aggT at h
  split at h <;> simp at h <;> subst h
  · rename_i hu; simp [isAgg, run_underlying hu]
  · rename_i hu; simp [isAgg, run_underlying hu]
  · rename_i d h1 h2 hu
    simp only [isAgg, Sem.run_bind, run_underlying hu, Result.andThen_ok]
    cases d <;> simp_all

theorem Addr.add_mk (b o n : Nat) : (⟨b, o, none⟩ : Addr).add n = ⟨b, o + n, none⟩ := by
  unfold Addr.add; split <;> simp_all

theorem Addr.eta {a : Addr} (h : a.spot = none) : a = ⟨a.block, a.off, none⟩ := by cases a; simp_all

/-! ### Blocks -/
theorem HR.block (h : HR X H) {id g : Nat} {p : Nat → Prop} {cs : List V} (hl : PLink (X.L id) g p) (hg : H.get id = some (.cells g cs)) :
    ∃ b c e fz, X.L id = .live b g ∧ p b ∧ X.w.heap[b]? = some (.cells c e fz) ∧ ¬ X.FB b ∧ cs.all V.cell = true ∧ cs.length ≤ c.size ∧
      (∀ (j : Nat) (v : V) (rv : Value), cs[j]? = some v → c[j]? = some rv → R X v rv) ∧ ∀ o, o < c.size → ¬ (fz.1 ≤ o ∧ o < fz.2) := by
  cases hL : X.L id with
  | pend => rw [hL] at hl; exact hl.elim
  | dead => rw [h.dead id hL] at hg; cases hg
  | live b g' =>
    obtain ⟨o, ob, ho, hb, hf, hr⟩ := h.live id b g' hL
    rw [hg] at ho; cases ho
    cases ob <;> simp only [ObjR] at hr
    rename_i c e fz
    obtain ⟨h1, h0, h2, h3, h4⟩ := hr
    subst h1
    rw [hL] at hl
    exact ⟨b, c, e, fz, rfl, hl.2 rfl, hb, hf, h0, h2, h3, h4⟩

theorem HR.mapAt (h : HR X H) {id : Nat} {p : Nat → Prop} {es : List (V × V × Nat)} {clock : Nat} (hl : PLink (X.L id) 0 p) (hg : H.get id = some (.map es clock)) :
    ∃ b es', X.L id = .live b 0 ∧ p b ∧ X.w.heap[b]? = some (.map es' clock) ∧ ¬ X.FB b ∧ es'.size = es.length ∧
      ∀ (j : Nat) (e : V × V × Nat) (e' : MapEntry), es[j]? = some e → es'[j]? = some e' → R X e.1 e'.key ∧ R X e.2.1 e'.val ∧ e'.born = e.2.2 := by
  cases hL : X.L id with
  | pend => rw [hL] at hl; exact hl.elim
  | dead => rw [h.dead id hL] at hg; cases hg
  | live b g' =>
    obtain ⟨o, ob, ho, hb, hf, hr⟩ := h.live id b g' hL
    rw [hg] at ho; cases ho
    cases ob <;> simp only [ObjR] at hr
    rename_i es' c'
    obtain ⟨rfl, rfl, h2, h3⟩ := hr
    rw [hL] at hl
    exact ⟨b, es', rfl, hl.2 rfl, hb, hf, h2, h3⟩

def rd (cs : List V) (off n : Nat) : List V := (cs.drop off).take n
def wr (cs : List V) (off : Nat) (vs : List V) : List V := cs.take off ++ vs ++ cs.drop (off + vs.length)

theorem rd_all {cs : List V} (h : cs.all V.cell = true) (off n : Nat) : (rd cs off n).all V.cell = true := by
  rw [List.all_eq_true] at h ⊢
  exact fun v hv => h v (List.mem_of_mem_drop (List.mem_of_mem_take hv))

theorem wr_all {cs vs : List V} (h : cs.all V.cell = true) (hv : vs.all V.cell = true) (off : Nat) : (wr cs off vs).all V.cell = true := by
  simp only [wr, List.all_append, Bool.and_eq_true]
  rw [List.all_eq_true] at h
  exact ⟨⟨List.all_eq_true.2 fun v hv => h v (List.mem_of_mem_take hv), hv⟩, List.all_eq_true.2 fun v hv => h v (List.mem_of_mem_drop hv)⟩

/-- What a load of type t makes of cells. -/
def mkT (g : Bool) (cs : List V) : Option V := if g then some (.agg cs) else cs.head?

/-- The cells of a part of a block, as the model has them. -/
theorem cells_of_block {w : World} {b : Nat} {c : Array Value} {e : TypeId} {fz : Nat × Nat} (hb : w.heap[b]? = some (.cells c e fz)) (off : Nat) :
    ∀ (j : Nat) (v : Value), (c.toList.drop off)[j]? = some v → w.cell? ⟨b, off + j, none⟩ = some v := by
  intro j v hj
  rw [List.getElem?_drop] at hj
  simp [World.cell?, hb]
  simpa using hj

theorem RL.of_block {cs : List V} {c : Array Value} (hl : cs.length ≤ c.size) (hr : ∀ (j : Nat) (v : V) (rv : Value), cs[j]? = some v → c[j]? = some rv → R X v rv) (off n : Nat) (hn : off + n ≤ cs.length) :
    RL X (rd cs off n) ((c.toList.drop off).take n) := by
  refine RL.of_get (by simp [rd]; omega) fun j v rv h1 h2 => ?_
  simp only [rd, List.getElem?_take, List.getElem?_drop] at h1 h2
  split at h1
  · rename_i hj; rw [if_pos hj] at h2; exact hr _ v rv h1 (by simpa using h2)
  · cases h1

theorem run_loadVar {t : TypeId} {s : Nat} {g : Bool} (hs : szT P t = some s) (hg : aggT P t = some g) {w : World} {b off : Nat} {rs : List Value} (hl : s ≤ rs.length)
    (hc : ∀ (j : Nat) (v : Value), rs[j]? = some v → w.cell? ⟨b, off + j, none⟩ = some v) {cs : List V} (hall : cs.all V.cell = true) (hR : RL ⟨X.L, X.FB, w⟩ cs (rs.take s)) {u : V} (hu : mkT g cs = some u) :
    ∃ ru, (loadVar t ⟨b, off, none⟩).run P w = .ok ru w ∧ R ⟨X.L, X.FB, w⟩ u ru := by
  cases g with
  | true =>
    simp only [mkT, if_true, Option.some.injEq] at hu
    subst hu
    refine ⟨.agg (rs.take s).toArray, ?_, .agg _ _ hall hR⟩
    have hlen : (rs.take s).length = s := by simp; omega
    have := run_loadCells_list (P := P) w ⟨b, off, none⟩ (rs.take s) (fun j v hj => by
      rw [Addr.add_mk]; refine hc j v ?_
      rw [List.getElem?_take] at hj; split at hj <;> simp_all)
    rw [hlen] at this
    simp [loadVar, run_isAgg hg, run_sizeOf hs, this]
  | false =>
    simp only [mkT, Bool.false_eq_true, if_false] at hu
    cases cs with
    | nil => simp at hu
    | cons v vs =>
      simp only [List.head?_cons, Option.some.injEq] at hu
      subst hu
      obtain ⟨rv, hrv, hR0⟩ := hR.get 0 (v := v) rfl
      refine ⟨rv, ?_, hR0⟩
      have h0 := hc 0 rv (by rw [List.getElem?_take] at hrv; split at hrv <;> simp_all)
      simp only [Nat.add_zero] at h0
      simp [loadVar, run_isAgg hg, h0]

/-- load -/
def ldV (P : Program) (H : Heap) (t : TypeId) (a : V) : Option V :=
  match szT P t, aggT P t with
  | some s, some g => match a with
    | .ptr id gen off => match H.get id with
      | some (.cells g' cs) => if g' = gen ∧ off + s ≤ cs.length then mkT g (rd cs off s) else none
      | _ => none
    | .fptr cs => if s ≤ cs.length then mkT g (cs.take s) else none
    | _ => none
  | _, _ => none

theorem ld_sim (h : HR X H) {t : TypeId} {a u : V} {ra : Value} (hr : R X a ra) (hu : ldV P H t a = some u) :
    ∃ ru, (Instr.loadAt t ra).run P X.w = .ok ru X.w ∧ R X u ru := by
  unfold ldV at hu
  split at hu
  · rename_i s g hs hg
    cases hr with
    | ptr id gen off a hsp hl =>
      simp only at hu
      split at hu
      · rename_i g' cs hget
        split at hu
        · rename_i hcond
          obtain ⟨rfl, hlen⟩ := hcond
          obtain ⟨b, c, e, fz, hL, ⟨hb1, hb2⟩, hb, hf, hall, hsz, hR, hfz⟩ := h.block hl hget
          rw [Addr.eta hsp, hb1, hb2]
          have := run_loadVar (P := P) (X := X) hs hg (w := X.w) (b := b) (off := off) (rs := c.toList.drop off) (by simp; omega) (cells_of_block hb off) (rd_all hall off s) (RL.of_block hsz hR off s hlen) hu
          obtain ⟨ru, h1, h2⟩ := this
          exact ⟨ru, by simpa [Instr.loadAt, Instr.sureAddr] using h1, h2⟩
        · cases hu
      · cases hu
    | fptr cs a rs hall hsp hf hc hR =>
      simp only at hu
      split at hu
      · rename_i hlen
        rw [Addr.eta hsp]
        have := run_loadVar (P := P) (X := X) hs hg (w := X.w) (b := a.block) (off := a.off) (rs := rs) (by rw [← hR.length]; omega) hc (cs := cs.take s) (rd_all hall 0 s) (hR.take s) hu
        obtain ⟨ru, h1, h2⟩ := this
        exact ⟨ru, by simpa [Instr.loadAt, Instr.sureAddr] using h1, h2⟩
      · cases hu
    | _ => simp at hu
  · cases hu

/-- fieldAddr -/
def faV (P : Program) (t : TypeId) (a : V) (i : Nat) : Option V :=
  match fldT P t i with
  | some (off, s, _) => if s = 0 then none else match a with
    | .ptr id g o => some (.ptr id g (o + off))
    | .fptr cs => some (.fptr (cs.drop off))
    | _ => none
  | none => none

theorem fldT_spec {t : TypeId} {i off s : Nat} {g : Bool} (h : fldT P t i = some (off, s, g)) : ∃ fs f, P.underlying t = some (.struct fs) ∧ fs[i]? = some f ∧ szT P f.type = some s ∧ aggT P f.type = some g ∧ f.offset = off := by
  unfold fldT at h
  split at h
  · rename_i fs hu
    simp only [Option.bind_eq_some_iff, Option.map_eq_some_iff, Prod.mk.injEq] at h
    obtain ⟨f, hf, s', hs, g', hg, rfl, rfl, rfl⟩ := h
    exact ⟨fs, f, hu, hf, hs, hg, rfl⟩
  · cases h

theorem fa_sim {t : TypeId} {a u : V} {i : Nat} {ra : Value} (hr : R X a ra) (hu : faV P t a i = some u) :
    ∃ ru, (Instr.fieldAt t ra i).run P X.w = .ok ru X.w ∧ R X u ru := by
  unfold faV at hu
  split at hu
  · rename_i off s g hf
    obtain ⟨fs, f, h1, h2, h3, h4, rfl⟩ := fldT_spec hf
    split at hu
    · cases hu
    · rename_i hs0
      have hp : ∀ a : Addr, (fieldPlace a f).run P X.w = .ok (a.add f.offset) X.w := by
        intro a
        simp [fieldPlace, run_sizeOf h3, hs0]
      cases hr with
      | ptr id gen o a hsp hl =>
        simp only [Option.some.injEq] at hu
        subst hu
        rw [Addr.eta hsp]
        refine ⟨.pointer (some ⟨a.block, a.off + f.offset, none⟩), by simp [Instr.fieldAt, run_underlying h1, h2, Instr.sureAddr, hp, Addr.add_mk], .ptr _ _ _ _ rfl (hl.mono (.refl _) ?_)⟩
        rintro b ⟨rfl, h⟩
        exact ⟨rfl, by simp [h]⟩
      | fptr cs a rs hall hsp hfb hc hR =>
        simp only [Option.some.injEq] at hu
        subst hu
        rw [Addr.eta hsp]
        refine ⟨.pointer (some ⟨a.block, a.off + f.offset, none⟩), by simp [Instr.fieldAt, run_underlying h1, h2, Instr.sureAddr, hp, Addr.add_mk], .fptr _ _ (rs.drop f.offset) ?_ rfl hfb ?_ (hR.drop _)⟩
        · rw [List.all_eq_true] at hall ⊢; exact fun v hv => hall v (List.mem_of_mem_drop hv)
        · intro j v hj; rw [List.getElem?_drop] at hj; have := hc _ v hj; simpa [Nat.add_assoc] using this
      | _ => simp at hu
  · cases hu

end
end Go.Ns

/- Ns, part C: more operations that only compute or read: parts of values, addresses of elements, slicing, building. -/
namespace Go.Ns
section
variable {P : Program} {X : Cx} {H : Heap}

theorem arrT_spec {t : TypeId} {n s : Nat} {g : Bool} (h : arrT P t = some (n, s, g)) : ∃ e, P.underlying t = some (.array n e) ∧ szT P e = some s ∧ aggT P e = some g := by
  unfold arrT at h
  split at h
  · rename_i m e hu
    simp only [Option.bind_eq_some_iff, Option.map_eq_some_iff, Prod.mk.injEq] at h
    obtain ⟨s', hs, g', hg, rfl, rfl, rfl⟩ := h
    exact ⟨e, hu, hs, hg⟩
  · cases h

theorem slcT_spec {t e : TypeId} {s by_ : Nat} (h : slcT P t = some (e, s, by_)) : ∃ i, P.underlying t = some (.slice e) ∧ P.info? e = some i ∧ i.size = s ∧ i.bytes = by_ := by
  unfold slcT at h
  split at h
  · rename_i e' hu
    simp only [Option.map_eq_some_iff, Prod.mk.injEq] at h
    obtain ⟨i, hi, rfl, rfl, rfl⟩ := h
    exact ⟨i, hu, hi, rfl, rfl⟩
  · cases h

theorem szT_of_info {e : TypeId} {i : TypeInfo} (h : P.info? e = some i) : szT P e = some i.size := by simp [szT, h]

theorem all_drop {cs : List V} (h : cs.all V.cell = true) (n : Nat) : (cs.drop n).all V.cell = true := by
  rw [List.all_eq_true] at h ⊢; exact fun v hv => h v (List.mem_of_mem_drop hv)

theorem all_take {cs : List V} (h : cs.all V.cell = true) (n : Nat) : (cs.take n).all V.cell = true := by
  rw [List.all_eq_true] at h ⊢; exact fun v hv => h v (List.mem_of_mem_take hv)

/-- A part of an aggregate. -/
def partV (s : Nat) (g : Bool) (cs : List V) (off : Nat) : Option V := if off + s ≤ cs.length then mkT g (rd cs off s) else none

theorem part_sim {t : TypeId} {s : Nat} {g : Bool} (hs : szT P t = some s) (hg : aggT P t = some g) {cs : List V} {rs : List Value} (hall : cs.all V.cell = true) (hR : RL X cs rs) {off : Nat} {u : V}
    (hu : partV s g cs off = some u) : ∃ ru, (part t rs.toArray off).run P X.w = .ok ru X.w ∧ R X u ru := by
  unfold partV at hu
  split at hu
  · rename_i hlen
    have hl := hR.length
    cases g with
    | true =>
      simp only [mkT, if_true, Option.some.injEq] at hu
      subst hu
      refine ⟨.agg ((rs.drop off).take s).toArray, ?_, .agg _ _ (rd_all hall off s) ((hR.drop off).take s)⟩
      simp [part, run_isAgg hg, run_sizeOf hs]
    | false =>
      simp only [mkT, Bool.false_eq_true, if_false] at hu
      have h1 : cs[off]? = some u := by
        unfold rd at hu
        cases s with
        | zero => simp at hu
        | succ s => simpa [List.head?_take, List.head?_drop] using hu
      obtain ⟨rv, hrv, hR0⟩ := hR.get off h1
      refine ⟨rv, ?_, hR0⟩
      simp [part, run_isAgg hg, hrv]
  · cases hu

/-- field -/
def fdV (P : Program) (t : TypeId) (x : V) (i : Nat) : Option V :=
  match fldT P t i, x with
  | some (off, s, g), .agg cs => partV s g cs off
  | _, _ => none

theorem fd_sim {t : TypeId} {x u : V} {i : Nat} {rx : Value} (hr : R X x rx) (hu : fdV P t x i = some u) : ∃ ru, (Instr.field t rx i).run P X.w = .ok ru X.w ∧ R X u ru := by
  unfold fdV at hu
  split at hu
  · rename_i off s g cs hf
    obtain ⟨fs, f, h1, h2, h3, h4, rfl⟩ := fldT_spec hf
    cases hr with
    | agg cs rs hall hR =>
      obtain ⟨ru, h5, h6⟩ := part_sim (P := P) h3 h4 hall hR hu
      exact ⟨ru, by simp [Instr.field, run_underlying h1, h2, asAgg, h5], h6⟩
  · cases hu

/-- index -/
def ixV (P : Program) (t : TypeId) (x i : V) : Option V :=
  match i with
  | .int _ i => match x with
    | .agg cs => match arrT P t with
      | some (n, s, g) => if 0 ≤ i ∧ i < n then partV s g cs (i.toNat * s) else none
      | none => none
    | .str b => if strT P t then if 0 ≤ i then (b[i.toNat]?).map fun c => .int .u8 c.toNat else none else none
    | _ => none
  | _ => none

theorem ix_sim {t : TypeId} {x i u : V} {rx ri : Value} (hr : R X x rx) (hi : R X i ri) (hu : ixV P t x i = some u) :
    ∃ ru, (Instr.index t rx ri).run P X.w = .ok ru X.w ∧ R X u ru := by
  unfold ixV at hu
  cases hi with
  | int k i =>
    simp only at hu
    cases hr with
    | agg cs rs hall hR =>
      simp only at hu
      split at hu
      · rename_i n s g ha
        obtain ⟨e, h1, h2, h3⟩ := arrT_spec ha
        split at hu
        · rename_i hb
          obtain ⟨ru, h5, h6⟩ := part_sim (P := P) h2 h3 hall hR hu
          exact ⟨ru, by simp [Instr.index, asIntOf, run_underlying h1, run_sizeOf h2, hb, h5], h6⟩
        · cases hu
      · cases hu
    | str b =>
      simp only at hu
      split at hu
      · rename_i hs
        split at hu
        · rename_i h0
          simp only [Option.map_eq_some_iff] at hu
          obtain ⟨c, hc, rfl⟩ := hu
          unfold strT at hs
          split at hs
          · rename_i h1
            exact ⟨_, by simp [Instr.index, asIntOf, run_underlying h1, h0, hc], .int _ _⟩
          · cases hs
        · cases hu
      · cases hu
    | _ => simp at hu
  | _ => simp at hu

/-- indexAddr -/
def iaV (P : Program) (t : TypeId) (x i : V) : Option V :=
  match i with
  | .int _ i => match x with
    | .ptr id g o => match arrT P t with
      | some (n, s, _) => if 0 ≤ i ∧ i < n then some (.ptr id g (o + i.toNat * s)) else none
      | none => none
    | .fptr cs => match arrT P t with
      | some (n, s, _) => if 0 ≤ i ∧ i < n then some (.fptr (cs.drop (i.toNat * s))) else none
      | none => none
    | .hsl id g o n _ _ _ => match slcT P t with
      | some (_, s, _) => if 0 ≤ i ∧ i < n then some (.ptr id g (o + i.toNat * s)) else none
      | none => none
    | .fsl _ n cs => match slcT P t with
      | some (_, s, _) => if 0 ≤ i ∧ i < n then some (.fptr (cs.drop (i.toNat * s))) else none
      | none => none
    | _ => none
  | _ => none

theorem fptr_drop {cs : List V} {a : Addr} {rs : List Value} (hall : cs.all V.cell = true) (hfb : X.FB a.block)
    (hc : ∀ (j : Nat) (v : Value), rs[j]? = some v → X.w.cell? ⟨a.block, a.off + j, none⟩ = some v) (hR : RL X cs rs) (n : Nat) : R X (.fptr (cs.drop n)) (.pointer (some ⟨a.block, a.off + n, none⟩)) :=
  .fptr _ _ (rs.drop n) (all_drop hall n) rfl hfb (fun j v hj => by rw [List.getElem?_drop] at hj; have := hc _ v hj; simpa [Nat.add_assoc] using this) (hR.drop n)

theorem ia_sim {t : TypeId} {x i u : V} {rx ri : Value} (hr : R X x rx) (hi : R X i ri) (hu : iaV P t x i = some u) :
    ∃ ru, (Instr.indexAt t rx ri).run P X.w = .ok ru X.w ∧ R X u ru := by
  unfold iaV at hu
  cases hi with
  | int k i =>
    simp only at hu
    cases hr with
    | ptr id g o a hsp hl =>
      simp only at hu
      split at hu
      · rename_i n s g' ha
        obtain ⟨e, h1, h2, h3⟩ := arrT_spec ha
        split at hu
        · rename_i hb
          cases hu
          rw [Addr.eta hsp]
          refine ⟨.pointer (some ⟨a.block, a.off + i.toNat * s, none⟩), by simp [Instr.indexAt, asIntOf, run_underlying h1, run_sizeOf h2, hb, Instr.sureAddr, Addr.add_mk], .ptr _ _ _ _ rfl (hl.mono (.refl _) ?_)⟩
          rintro b ⟨rfl, h⟩; exact ⟨rfl, by simp [h]⟩
        · cases hu
      · cases hu
    | fptr cs a rs hall hsp hfb hc hR =>
      simp only at hu
      split at hu
      · rename_i n s g' ha
        obtain ⟨e, h1, h2, h3⟩ := arrT_spec ha
        split at hu
        · rename_i hb
          cases hu
          rw [Addr.eta hsp]
          exact ⟨.pointer (some ⟨a.block, a.off + i.toNat * s, none⟩), by simp [Instr.indexAt, asIntOf, run_underlying h1, run_sizeOf h2, hb, Instr.sureAddr, Addr.add_mk], fptr_drop hall hfb hc hR _⟩
        · cases hu
      · cases hu
    | hsl id g o n sz ex c a cap hsp hn hx hc hl =>
      simp only at hu
      split at hu
      · rename_i e s by_ ha
        obtain ⟨i', h1, h2, rfl, rfl⟩ := slcT_spec ha
        split at hu
        · rename_i hb
          cases hu
          rw [Addr.eta hsp]
          refine ⟨.pointer (some ⟨a.block, a.off + i.toNat * i'.size, none⟩), by simp [Instr.indexAt, asIntOf, run_underlying h1, run_sizeOf (szT_of_info h2), hb, Addr.add_mk], .ptr _ _ _ _ rfl (hl.mono (.refl _) ?_)⟩
          rintro b ⟨rfl, h, _⟩; exact ⟨rfl, by simp [h]⟩
        · cases hu
      · cases hu
    | fsl ex n cs a rs cap hall hsp hfb hn hx hc hR =>
      simp only at hu
      split at hu
      · rename_i e s by_ ha
        obtain ⟨i', h1, h2, rfl, rfl⟩ := slcT_spec ha
        split at hu
        · rename_i hb
          cases hu
          rw [Addr.eta hsp]
          exact ⟨.pointer (some ⟨a.block, a.off + i.toNat * i'.size, none⟩), by simp [Instr.indexAt, asIntOf, run_underlying h1, run_sizeOf (szT_of_info h2), hb, Addr.add_mk], fptr_drop hall hfb hc hR _⟩
        · cases hu
      · cases hu
    | emp a cap =>
      simp only at hu
      split at hu
      · split at hu
        · omega
        · cases hu
      · cases hu
    | emp0 a =>
      simp only at hu
      split at hu
      · split at hu
        · omega
        · cases hu
      · cases hu
    | _ => simp at hu
  | _ => simp at hu

/-- extract -/
def exV (x : V) (i : Nat) : Option V := match x with | .tup vs => vs[i]? | _ => none

theorem ex_sim {x u : V} {i : Nat} {rx : Value} (hr : R X x rx) (hu : exV x i = some u) : ∃ ru, (Instr.extract rx i).run P X.w = .ok ru X.w ∧ R X u ru := by
  unfold exV at hu
  cases hr with
  | tup cs rs hR =>
    simp only at hu
    obtain ⟨rv, h1, h2⟩ := hR.get i hu
    exact ⟨rv, by simp [Instr.extract, h1], h2⟩
  | _ => simp at hu

end
end Go.Ns

/- Ns, part D: slicing and building. -/
namespace Go.Ns
section
variable {P : Program} {X : Cx} {H : Heap}

/-! ### Slicing -/
def bndV : Option V → Nat → Option Nat
  | none, d => some d
  | some (.int _ i), _ => if 0 ≤ i then some i.toNat else none
  | _, _ => none

inductive OR (X : Cx) : Option V → Option Value → Prop
  | none : OR X none none
  | some (v : V) (rv : Value) : R X v rv → OR X (some v) (some rv)

theorem bnd_some {v : V} {d l : Nat} (h : bndV (some v) d = some l) : ∃ k, v = .int k (l : Int) := by
  cases v <;> simp [bndV] at h
  rename_i k i
  obtain ⟨h0, rfl⟩ := h
  exact ⟨k, by rw [Int.toNat_of_nonneg h0]⟩

theorem run_sliceBound {v : V} {rv : Value} (hr : R X v rv) {d l y : Nat} (h : bndV (some v) d = some l) (hy : l ≤ y) (code : BoundsCode) :
    (Instr.sliceBound rv y code).run P X.w = .ok l X.w := by
  obtain ⟨k, rfl⟩ := bnd_some h
  cases hr
  have : (l : Int) ≤ (y : Int) := by omega
  simp [Instr.sliceBound, asIntOf, this]

/-- The bounds: low, high, and what the capacity is behind them. -/
theorem run_sliceBounds {lo hi mx : Option V} {rlo rhi rmx : Option Value} (h1 : OR X lo rlo) (h2 : OR X hi rhi) (h3 : OR X mx rmx) {sl : Bool} {len cap l h m : Nat}
    (hl : bndV lo 0 = some l) (hh : bndV hi len = some h) (hm : bndV mx cap = some m) (hlh : l ≤ h) (hhm : h ≤ m) (hmc : m ≤ cap) (hx : hi = none → mx = none) :
    (Instr.sliceBounds sl len cap rlo rhi rmx).run P X.w = .ok (l, h, m) X.w := by
  have b1 : ∀ v rv, lo = some v → R X v rv → ∀ code, (Instr.sliceBound rv h code).run P X.w = .ok l X.w := fun v rv e hr code => run_sliceBound hr (e ▸ hl) hlh code
  have b2 : ∀ v rv, hi = some v → R X v rv → ∀ code, (Instr.sliceBound rv m code).run P X.w = .ok h X.w := fun v rv e hr code => run_sliceBound hr (e ▸ hh) hhm code
  have b3 : ∀ v rv, mx = some v → R X v rv → ∀ code, (Instr.sliceBound rv cap code).run P X.w = .ok m X.w := fun v rv e hr code => run_sliceBound hr (e ▸ hm) hmc code
  have c1 : lo = none → l = 0 := fun e => by subst e; simp [bndV] at hl; exact hl.symm
  have c2 : hi = none → h = len := fun e => by subst e; simp [bndV] at hh; exact hh.symm
  have c3 : mx = none → m = cap := fun e => by subst e; simp [bndV] at hm; exact hm.symm
  unfold Instr.sliceBounds
  cases h3 with
  | none =>
    have e3 := c3 rfl
    subst e3
    cases h2 with
    | none =>
      have e2 := c2 rfl
      subst e2
      cases h1 with
      | none => have e1 := c1 rfl; subst e1; simp
      | some v1 r1 p1 => simp [b1 v1 r1 rfl p1]
    | some v2 r2 p2 =>
      cases h1 with
      | none => have e1 := c1 rfl; subst e1; simp [b2 v2 r2 rfl p2]
      | some v1 r1 p1 => simp [b1 v1 r1 rfl p1, b2 v2 r2 rfl p2]
  | some v3 r3 p3 =>
    cases h2 with
    | none => cases hx rfl
    | some v2 r2 p2 =>
      cases h1 with
      | none => have e1 := c1 rfl; subst e1; simp [b2 v2 r2 rfl p2, b3 v3 r3 rfl p3]
      | some v1 r1 p1 => simp [b1 v1 r1 rfl p1, b2 v2 r2 rfl p2, b3 v3 r3 rfl p3]

/-- What a slice of n elements is called that stands l elements behind the begin; 'm': its capacity's end, if it is known. -/
def slV (P : Program) (H : Heap) (t : TypeId) (x : V) (lo hi mx : Option V) : Option V :=
  match x with
  | .ptr id g o => match arrT P t, H.get id with
    | some (n, s, _), some (.cells g' cs) => match bndV lo 0, bndV hi n, mx with
      | some l, some h, none => if g' = g ∧ l ≤ h ∧ h ≤ n ∧ o + n * s ≤ cs.length then
          if l = n then some (.fsl true 0 []) else some (.hsl id g (o + l * s) (h - l) s true (n - l)) else none
      | _, _, _ => none
    | _, _ => none
  | .fptr cs => match arrT P t with
    | some (n, s, _) => match bndV lo 0, bndV hi n, mx with
      | some l, some h, none => if l ≤ h ∧ h ≤ n ∧ n * s ≤ cs.length then
          if l = n then some (.fsl true 0 []) else some (.fsl (h == n) (h - l) ((cs.drop (l * s)).take ((h - l) * s))) else none
      | _, _, _ => none
    | none => none
  | .hsl id g o n sz ex c => match slcT P t with
    | some (_, s, _) => match bndV lo 0, bndV hi n, mx with
      | some l, some h, none => if l ≤ h ∧ (h ≤ n ∨ h ≤ c) ∧ sz = s then
          if l = 0 ∨ l < c ∨ l < h then some (.hsl id g (o + l * s) (h - l) sz ex (c - l)) else some (.fsl false 0 [])
        else none
      | some l, some h, some (.int _ m) => if l ≤ h ∧ hi.isSome = true ∧ 0 ≤ m ∧ h ≤ m.toNat ∧ m.toNat ≤ n ∧ sz = s then
          if l = m.toNat then some (.fsl true 0 []) else some (.hsl id g (o + l * s) (h - l) sz true (m.toNat - l))
        else none
      | _, _, _ => none
    | none => none
  | .fsl ex n cs => match slcT P t with
    | some (_, s, _) => match bndV lo 0, bndV hi n, mx with
      | some l, some h, none => if l ≤ h ∧ h ≤ n ∧ n * s ≤ cs.length then
          if l = h then some (.fsl (ex && h == n) 0 []) else some (.fsl (ex && h == n) (h - l) ((cs.drop (l * s)).take ((h - l) * s)))
        else none
      | some l, some h, some (.int _ m) => if l ≤ h ∧ hi.isSome = true ∧ m = h ∧ h ≤ n ∧ n * s ≤ cs.length then
          if l = h then some (.fsl true 0 []) else some (.fsl true (h - l) ((cs.drop (l * s)).take ((h - l) * s)))
        else none
      | _, _, _ => none
    | none => none
  | .nils => match slcT P t with
    | some _ => match bndV lo 0, bndV hi 0, bndV mx 0 with
      | some 0, some 0, some 0 => if hi = none ∧ mx ≠ none then none else some .nils
      | _, _, _ => none
    | none => none
  | .str b => if strT P t then match bndV lo 0, bndV hi b.size, mx with
      | some l, some h, none => if l ≤ h ∧ h ≤ b.size then some (.str (b.extract l h)) else none
      | _, _, _ => none
    else none
  | _ => none

end
end Go.Ns

/- Ns, part E: slicing, held against the model's. -/
namespace Go.Ns
section
variable {P : Program} {X : Cx} {H : Heap}

theorem shape_of_block {w : World} {b : Nat} {c : Array Value} {e : TypeId} {fz : Nat × Nat} (h : w.heap[b]? = some (.cells c e fz)) : w.shape? b = some (e, c.size) := by
  simp [World.shape?, h]

theorem slice_ptr (h : HR X H) {t : TypeId} {id g o : Nat} {a : Addr} (hsp : a.spot = none) (hl : PLink (X.L id) g (fun b => a.block = b ∧ a.off = o)) {lo hi mx : Option V} {rlo rhi rmx : Option Value}
    (h1 : OR X lo rlo) (h2 : OR X hi rhi) (h3 : OR X mx rmx) {u : V} (hu : slV P H t (.ptr id g o) lo hi mx = some u) :
    ∃ ru, (Instr.sliceAt t (.pointer (some a)) rlo rhi rmx).run P X.w = .ok ru X.w ∧ R X u ru := by
  simp only [slV] at hu
  split at hu
  · rename_i n s g1 g' cs ha hget
    obtain ⟨e, hu1, hs, hg⟩ := arrT_spec ha
    split at hu
    · rename_i l hh hl1 hh1
      split at hu
      · rename_i hc
        obtain ⟨rfl, hlh, hhn, hlen⟩ := hc
        obtain ⟨b, c, et, fz, hL, ⟨hb1, hb2⟩, hb, hf, hall, hsz, hR, hfz⟩ := h.block hl hget
        have hsb := run_sliceBounds (P := P) (X := X) h1 h2 h3 (sl := false) (len := n) (cap := n) (m := n) hl1 hh1 (by simp [bndV]) hlh hhn (Nat.le_refl _) (fun _ => rfl)
        rw [Addr.eta hsp]
        split at hu
        · rename_i hln
          cases hu
          subst hln
          have : hh = l := by omega
          subst this
          exact ⟨.slice (some ⟨a.block, a.off, none⟩) 0 0, by simp [Instr.sliceAt, run_underlying hu1, Instr.sureAddr, hsb, run_sizeOf hs], .emp0 _⟩
        · rename_i hln
          cases hu
          refine ⟨.slice (some ⟨a.block, a.off + l * s, none⟩) (hh - l) (n - l), by simp [Instr.sliceAt, run_underlying hu1, Instr.sureAddr, hsb, run_sizeOf hs, Ne.symm hln, Addr.add_mk], ?_⟩
          refine .hsl _ _ _ _ _ _ _ _ _ rfl (by omega) (fun _ => rfl) (Nat.le_refl _) ?_
          rw [hL]
          refine ⟨Nat.le_refl _, fun _ => ⟨hb1, by simp [hb2], et, c.size, shape_of_block hb, ?_⟩⟩
          have : (o + l * s) + (n - l) * s = o + n * s := by
            rw [Nat.sub_mul]
            have : l * s ≤ n * s := Nat.mul_le_mul_right _ (by omega)
            omega
          omega
      · cases hu
    · cases hu
  · cases hu

theorem fsl_part {cs : List V} {a : Addr} {rs : List Value} (hall : cs.all V.cell = true) (hfb : X.FB a.block)
    (hc : ∀ (j : Nat) (v : Value), rs[j]? = some v → X.w.cell? ⟨a.block, a.off + j, none⟩ = some v) (hR : RL X cs rs) {ex : Bool} {off m n cap : Nat} (hn : n ≤ cap) (hx : ex = true → cap = n) :
    R X (.fsl ex n ((cs.drop off).take m)) (.slice (some ⟨a.block, a.off + off, none⟩) n cap) :=
  .fsl _ _ _ _ ((rs.drop off).take m) _ (all_take (all_drop hall _) _) rfl hfb hn hx
    (fun j v hj => by
      rw [List.getElem?_take] at hj
      split at hj
      · rw [List.getElem?_drop] at hj; have := hc _ v hj; simpa [Nat.add_assoc] using this
      · cases hj) ((hR.drop _).take _)

theorem slice_fptr {t : TypeId} {cs : List V} {a : Addr} {rs : List Value} (hall : cs.all V.cell = true) (hsp : a.spot = none) (hfb : X.FB a.block)
    (hc : ∀ (j : Nat) (v : Value), rs[j]? = some v → X.w.cell? ⟨a.block, a.off + j, none⟩ = some v) (hR : RL X cs rs) {lo hi mx : Option V} {rlo rhi rmx : Option Value}
    (h1 : OR X lo rlo) (h2 : OR X hi rhi) (h3 : OR X mx rmx) {u : V} (hu : slV P H t (.fptr cs) lo hi mx = some u) :
    ∃ ru, (Instr.sliceAt t (.pointer (some a)) rlo rhi rmx).run P X.w = .ok ru X.w ∧ R X u ru := by
  simp only [slV] at hu
  split at hu
  · rename_i n s g1 ha
    obtain ⟨e, hu1, hs, hg⟩ := arrT_spec ha
    split at hu
    · rename_i l hh hl1 hh1
      split at hu
      · rename_i hcd
        obtain ⟨hlh, hhn, hlen⟩ := hcd
        have hsb := run_sliceBounds (P := P) (X := X) h1 h2 h3 (sl := false) (len := n) (cap := n) (m := n) hl1 hh1 (by simp [bndV]) hlh hhn (Nat.le_refl _) (fun _ => rfl)
        rw [Addr.eta hsp]
        split at hu
        · rename_i hln
          cases hu
          subst hln
          have : hh = l := by omega
          subst this
          exact ⟨.slice (some ⟨a.block, a.off, none⟩) 0 0, by simp [Instr.sliceAt, run_underlying hu1, Instr.sureAddr, hsb, run_sizeOf hs], .emp0 _⟩
        · rename_i hln
          cases hu
          refine ⟨.slice (some ⟨a.block, a.off + l * s, none⟩) (hh - l) (n - l), by simp [Instr.sliceAt, run_underlying hu1, Instr.sureAddr, hsb, run_sizeOf hs, Ne.symm hln, Addr.add_mk], ?_⟩
          exact fsl_part hall hfb hc hR (by omega) (fun e => by simp at e; omega)
      · cases hu
    · cases hu
  · cases hu

theorem slice_hsl {t : TypeId} {id g o n sz : Nat} {ex : Bool} {c : Nat} {a : Addr} {cap : Nat} (hsp : a.spot = none) (hn : n ≤ cap) (hx : ex = true → cap = c) (hc : c ≤ cap)
    (hl : PLink (X.L id) g (fun b => a.block = b ∧ a.off = o ∧ ∃ e m, X.w.shape? b = some (e, m) ∧ o + cap * sz ≤ m)) {lo hi mx : Option V} {rlo rhi rmx : Option Value}
    (h1 : OR X lo rlo) (h2 : OR X hi rhi) (h3 : OR X mx rmx) {u : V} (hu : slV P H t (.hsl id g o n sz ex c) lo hi mx = some u) :
    ∃ ru, (Instr.sliceAt t (.slice (some a) n cap) rlo rhi rmx).run P X.w = .ok ru X.w ∧ R X u ru := by
  simp only [slV] at hu
  split at hu
  · rename_i e s by_ ha
    obtain ⟨i, hu1, hi1, rfl, rfl⟩ := slcT_spec ha
    split at hu
    · rename_i l hh hl1 hh1
      split at hu
      · rename_i hcd
        obtain ⟨hlh, hhn, rfl⟩ := hcd
        have hsb := run_sliceBounds (P := P) (X := X) h1 h2 h3 (sl := true) (len := n) (cap := cap) (m := cap) hl1 hh1 (by simp [bndV]) hlh (by omega) (Nat.le_refl _) (fun _ => rfl)
        rw [Addr.eta hsp]
        split at hu
        · rename_i hln
          cases hu
          have hlc : l = 0 ∨ l < cap := by omega
          refine ⟨.slice (some ⟨a.block, a.off + l * i.size, none⟩) (hh - l) (cap - l), ?_, ?_⟩
          · by_cases hm : cap = l
            · have e0 : l = 0 := by omega
              subst e0
              subst hm
              simp [Instr.sliceAt, run_underlying hu1, Instr.slice, hsb, run_sizeOf (szT_of_info hi1)]
            · simp [Instr.sliceAt, run_underlying hu1, Instr.slice, hsb, run_sizeOf (szT_of_info hi1), hm, Addr.add_mk]
          · refine .hsl _ _ _ _ _ _ _ _ _ rfl (by omega) (fun e => by rw [hx e]) (by omega) (hl.mono (.refl _) ?_)
            rintro b ⟨rfl, h, e, m, h5, h6⟩
            refine ⟨rfl, by simp [h], e, m, h5, ?_⟩
            have : l * i.size ≤ cap * i.size := Nat.mul_le_mul_right _ (by omega)
            rw [Nat.sub_mul]; omega
        · rename_i hln
          cases hu
          have : hh - l = 0 := by omega
          refine ⟨.slice (some (if cap = l then ⟨a.block, a.off, none⟩ else ⟨a.block, a.off + l * i.size, none⟩)) 0 (cap - l), ?_, .emp _ _⟩
          simp [Instr.sliceAt, run_underlying hu1, Instr.slice, hsb, run_sizeOf (szT_of_info hi1), Addr.add_mk, this]
          split <;> rfl
      · cases hu
    · rename_i mx0 l hh k m0 hl1 hh1
      split at hu
      · rename_i hcd
        obtain ⟨hlh, hhs, hm0, hhm, hmn, rfl⟩ := hcd
        have hsb := run_sliceBounds (P := P) (X := X) h1 h2 h3 (sl := true) (len := n) (cap := cap) (m := m0.toNat) hl1 hh1 (by simp [bndV, hm0]) hlh hhm (by omega) (fun e => by simp [e] at hhs)
        rw [Addr.eta hsp]
        split at hu
        · rename_i hln
          cases hu
          have : hh - l = 0 := by omega
          refine ⟨.slice (some ⟨a.block, a.off, none⟩) 0 0, ?_, .emp0 _⟩
          simp [Instr.sliceAt, run_underlying hu1, Instr.slice, hsb, run_sizeOf (szT_of_info hi1), ← hln, this]
        · rename_i hln
          cases hu
          refine ⟨.slice (some ⟨a.block, a.off + l * i.size, none⟩) (hh - l) (m0.toNat - l), ?_, ?_⟩
          · simp [Instr.sliceAt, run_underlying hu1, Instr.slice, hsb, run_sizeOf (szT_of_info hi1), Ne.symm hln, Addr.add_mk]
          · refine .hsl _ _ _ _ _ _ _ _ _ rfl (by omega) (fun _ => rfl) (Nat.le_refl _) (hl.mono (.refl _) ?_)
            rintro b ⟨rfl, h, e, m, h5, h6⟩
            refine ⟨rfl, by simp [h], e, m, h5, ?_⟩
            have q1 : l * i.size ≤ m0.toNat * i.size := Nat.mul_le_mul_right _ (by omega)
            have q2 : m0.toNat * i.size ≤ cap * i.size := Nat.mul_le_mul_right _ (by omega)
            rw [Nat.sub_mul]; omega
      · cases hu
    · cases hu
  · cases hu

theorem slice_fsl {t : TypeId} {ex : Bool} {n : Nat} {cs : List V} {a : Addr} {rs : List Value} {cap : Nat} (hall : cs.all V.cell = true) (hsp : a.spot = none) (hfb : X.FB a.block) (hn : n ≤ cap) (hx : ex = true → cap = n)
    (hc : ∀ (j : Nat) (v : Value), rs[j]? = some v → X.w.cell? ⟨a.block, a.off + j, none⟩ = some v) (hR : RL X cs rs) {lo hi mx : Option V} {rlo rhi rmx : Option Value}
    (h1 : OR X lo rlo) (h2 : OR X hi rhi) (h3 : OR X mx rmx) {u : V} (hu : slV P H t (.fsl ex n cs) lo hi mx = some u) :
    ∃ ru, (Instr.sliceAt t (.slice (some a) n cap) rlo rhi rmx).run P X.w = .ok ru X.w ∧ R X u ru := by
  simp only [slV] at hu
  split at hu
  · rename_i e s by_ ha
    obtain ⟨i, hu1, hi1, rfl, rfl⟩ := slcT_spec ha
    split at hu
    · rename_i l hh hl1 hh1
      split at hu
      · rename_i hcd
        obtain ⟨hlh, hhn, hlen⟩ := hcd
        have hsb := run_sliceBounds (P := P) (X := X) h1 h2 h3 (sl := true) (len := n) (cap := cap) (m := cap) hl1 hh1 (by simp [bndV]) hlh (by omega) (Nat.le_refl _) (fun _ => rfl)
        rw [Addr.eta hsp]
        split at hu
        · rename_i hln
          cases hu
          subst hln
          refine ⟨.slice (some (if cap = l then ⟨a.block, a.off, none⟩ else ⟨a.block, a.off + l * i.size, none⟩)) 0 (cap - l), ?_, ?_⟩
          · simp [Instr.sliceAt, run_underlying hu1, Instr.slice, hsb, run_sizeOf (szT_of_info hi1), Addr.add_mk]
            split <;> rfl
          · by_cases hq : (ex && l == n) = true
            · rw [hq]
              simp at hq
              have : cap - l = 0 := by rw [hx hq.1, hq.2]; omega
              rw [this]; exact .emp0 _
            · simp only [Bool.not_eq_true] at hq; rw [hq]; exact .emp _ _
        · rename_i hln
          cases hu
          have hne : cap ≠ l := by omega
          refine ⟨.slice (some ⟨a.block, a.off + l * i.size, none⟩) (hh - l) (cap - l), by simp [Instr.sliceAt, run_underlying hu1, Instr.slice, hsb, run_sizeOf (szT_of_info hi1), hne, Addr.add_mk], ?_⟩
          exact fsl_part hall hfb hc hR (by omega) (fun e => by simp at e; have := hx e.1; omega)
      · cases hu
    · rename_i mx0 l hh k m0 hl1 hh1
      split at hu
      · rename_i hcd
        obtain ⟨hlh, hhs, rfl, hhn, hlen⟩ := hcd
        have hsb := run_sliceBounds (P := P) (X := X) h1 h2 h3 (sl := true) (len := n) (cap := cap) (m := hh) hl1 hh1 (by simp [bndV]) hlh (Nat.le_refl _) (by omega) (fun e => by simp [e] at hhs)
        rw [Addr.eta hsp]
        split at hu
        · rename_i hln
          cases hu
          subst hln
          refine ⟨.slice (some ⟨a.block, a.off, none⟩) 0 0, ?_, .emp0 _⟩
          simp [Instr.sliceAt, run_underlying hu1, Instr.slice, hsb, run_sizeOf (szT_of_info hi1)]
        · rename_i hln
          cases hu
          refine ⟨.slice (some ⟨a.block, a.off + l * i.size, none⟩) (hh - l) (hh - l), by simp [Instr.sliceAt, run_underlying hu1, Instr.slice, hsb, run_sizeOf (szT_of_info hi1), Ne.symm hln, Addr.add_mk], ?_⟩
          exact fsl_part hall hfb hc hR (Nat.le_refl _) (fun _ => rfl)
      · cases hu
    · cases hu
  · cases hu

/-- An empty one: of unknown or no capacity. -/
theorem slice_emp {t : TypeId} {ex : Bool} {a : Addr} {cap : Nat} (hx : ex = true → cap = 0) {lo hi mx : Option V} {rlo rhi rmx : Option Value}
    (h1 : OR X lo rlo) (h2 : OR X hi rhi) (h3 : OR X mx rmx) {u : V} (hu : slV P H t (.fsl ex 0 []) lo hi mx = some u) :
    ∃ ru, (Instr.sliceAt t (.slice (some a) 0 cap) rlo rhi rmx).run P X.w = .ok ru X.w ∧ R X u ru := by
  simp only [slV] at hu
  split at hu
  · rename_i e s by_ ha
    obtain ⟨i, hu1, hi1, rfl, rfl⟩ := slcT_spec ha
    split at hu
    · rename_i l hh hl1 hh1
      split at hu
      · rename_i hcd
        obtain ⟨hlh, hhn, hlen⟩ := hcd
        have e1 : hh = 0 := by omega
        have e2 : l = 0 := by omega
        subst e1 e2
        have hsb := run_sliceBounds (P := P) (X := X) h1 h2 h3 (sl := true) (len := 0) (cap := cap) (m := cap) hl1 hh1 (by simp [bndV]) hlh (by omega) (Nat.le_refl _) (fun _ => rfl)
        simp at hu
        subst hu
        refine ⟨.slice (some (if cap = 0 then a else a.add 0)) 0 cap, ?_, ?_⟩
        · simp [Instr.sliceAt, run_underlying hu1, Instr.slice, hsb, run_sizeOf (szT_of_info hi1)]; split <;> rfl
        · cases ex
          · exact .emp _ _
          · have := hx rfl; subst this; exact .emp0 _
      · cases hu
    · rename_i mx0 l hh k m0 hl1 hh1
      split at hu
      · rename_i hcd
        obtain ⟨hlh, hhs, rfl, hhn, hlen⟩ := hcd
        have e1 : hh = 0 := by omega
        have e2 : l = 0 := by omega
        subst e1 e2
        have hsb := run_sliceBounds (P := P) (X := X) h1 h2 h3 (sl := true) (len := 0) (cap := cap) (m := 0) hl1 hh1 (by simp [bndV]) hlh (Nat.le_refl _) (by omega) (fun e => by simp [e] at hhs)
        simp at hu
        subst hu
        refine ⟨.slice (some a) 0 0, ?_, .emp0 _⟩
        simp [Instr.sliceAt, run_underlying hu1, Instr.slice, hsb, run_sizeOf (szT_of_info hi1)]
      · cases hu
    · cases hu
  · cases hu

theorem sl_sim (h : HR X H) {t : TypeId} {x u : V} {rx : Value} (hr : R X x rx) {lo hi mx : Option V} {rlo rhi rmx : Option Value} (h1 : OR X lo rlo) (h2 : OR X hi rhi) (h3 : OR X mx rmx)
    (hu : slV P H t x lo hi mx = some u) : ∃ ru, (Instr.sliceAt t rx rlo rhi rmx).run P X.w = .ok ru X.w ∧ R X u ru := by
  cases hr with
  | ptr id g o a hsp hl => exact slice_ptr h hsp hl h1 h2 h3 hu
  | fptr cs a rs hall hsp hfb hc hR => exact slice_fptr (H := H) hall hsp hfb hc hR h1 h2 h3 hu
  | hsl id g o n sz ex c a cap hsp hn hx hc hl => exact slice_hsl (H := H) hsp hn hx hc hl h1 h2 h3 hu
  | fsl ex n cs a rs cap hall hsp hfb hn hx hc hR => exact slice_fsl (H := H) hall hsp hfb hn hx hc hR h1 h2 h3 hu
  | emp a cap => exact slice_emp (H := H) (by simp) h1 h2 h3 hu
  | emp0 a => exact slice_emp (H := H) (by simp) h1 h2 h3 hu
  | nils =>
    simp only [slV] at hu
    split at hu
    · rename_i x ha
      obtain ⟨e, s, by_⟩ := x
      obtain ⟨i, hu1, hi1, rfl, rfl⟩ := slcT_spec ha
      split at hu
      · rename_i hl1 hh1 hm1
        split at hu
        · cases hu
        · rename_i hcd
          cases hu
          have hsb := run_sliceBounds (P := P) (X := X) h1 h2 h3 (sl := true) (len := 0) (cap := 0) (m := 0) hl1 hh1 hm1 (Nat.le_refl _) (Nat.le_refl _) (Nat.le_refl _) (fun e => by
            rcases Classical.em (mx = none) with hq | hq
            · exact hq
            · exact absurd ⟨e, hq⟩ hcd)
          exact ⟨.slice none 0 0, by simp [Instr.sliceAt, run_underlying hu1, Instr.slice, hsb, run_sizeOf (szT_of_info hi1)], .nils⟩
      · cases hu
    · cases hu
  | str b =>
    simp only [slV] at hu
    split at hu
    · rename_i hs
      unfold strT at hs
      split at hs
      · rename_i hu1
        split at hu
        · rename_i l hh hl1 hh1
          split at hu
          · rename_i hcd
            cases hu
            cases h3
            have hsb := run_sliceBounds (P := P) (X := X) h1 h2 .none (sl := false) (len := b.size) (cap := b.size) (m := b.size) hl1 hh1 (by simp [bndV]) hcd.1 hcd.2 (Nat.le_refl _) (fun _ => rfl)
            exact ⟨.string (b.extract l hh), by simp [Instr.sliceAt, run_underlying hu1, Instr.slice, hsb], .str _⟩
          · cases hu
        · cases hu
      · cases hs
    · cases hu
  | _ => simp [slV] at hu

end
end Go.Ns

/- Ns, part F: numbers, strings, tests; what a struct or array is built of. -/
namespace Go.Ns
section
variable {P : Program} {X : Cx} {H : Heap}

/-! ### Plain data, cell by cell -/
inductive PK where | b | i (k : IntKind) | s
  deriving DecidableEq

def fitV : PK → V → Bool
  | .b, .bool _ => true
  | .i k, .int k' _ => k == k'
  | .s, .str _ => true
  | _, _ => false

def fitsV : List PK → List V → Bool
  | [], [] => true
  | k :: ks, v :: vs => fitV k v && fitsV ks vs
  | _, _ => false

def eqV : V → V → Bool
  | .bool a, .bool b => a == b
  | .int _ a, .int _ b => a == b
  | .str a, .str b => a.toList == b.toList
  | _, _ => false

def eqVs : List V → List V → Bool
  | [], [] => true
  | a :: as, b :: bs => eqV a b && eqVs as bs
  | _, _ => false

/-- The kinds of a plain type's cells, in their order; none: it is not plain. -/
def kindsT (P : Program) : Nat → TypeId → Option (List PK)
  | 0, _ => none
  | d + 1, t =>
    match P.underlying t with
    | some .bool => if szT P t = some 1 then some [.b] else none
    | some (.int k) => if szT P t = some 1 then some [.i k] else none
    | some .string => if szT P t = some 1 then some [.s] else none
    | some (.array n e) => (kindsT P d e).bind fun ks => if szT P e = some ks.length ∧ szT P t = some (n * ks.length) then some (List.replicate n ks).flatten else none
    | some (.struct fs) =>
      if P.stoodInHeld t then none else
        (fs.toList.foldlM (fun (acc : List PK) f => (kindsT P d f.type).bind fun ks => if f.name ≠ "_" ∧ f.offset = acc.length ∧ szT P f.type = some ks.length then some (acc ++ ks) else none) []).bind
          fun ks => if szT P t = some ks.length then some ks else none
    | _ => none

theorem fitsV_length : ∀ {ks : List PK} {vs : List V}, fitsV ks vs = true → ks.length = vs.length
  | [], [], _ => rfl
  | _ :: _, _ :: _, h => by simp [fitsV] at h; simp [fitsV_length h.2]
  | [], _ :: _, h => by simp [fitsV] at h
  | _ :: _, [], h => by simp [fitsV] at h

theorem fitsV_append : ∀ {ks ks' : List PK} {vs : List V}, fitsV (ks ++ ks') vs = true → fitsV ks (vs.take ks.length) = true ∧ fitsV ks' (vs.drop ks.length) = true
  | [], ks', vs, h => by simpa [fitsV] using h
  | k :: ks, ks', [], h => by simp [fitsV] at h
  | k :: ks, ks', v :: vs, h => by
    simp only [List.cons_append, fitsV, Bool.and_eq_true] at h
    have := fitsV_append h.2
    simp [fitsV, h.1, this.1, this.2]

theorem eqVs_split : ∀ (n : Nat) (a b : List V), a.length = b.length → eqVs a b = (eqVs (a.take n) (b.take n) && eqVs (a.drop n) (b.drop n))
  | 0, a, b, _ => by simp [eqVs]
  | n + 1, [], [], _ => by simp [eqVs]
  | n + 1, x :: a, y :: b, h => by
    simp only [eqVs, List.take_succ_cons, List.drop_succ_cons]
    rw [eqVs_split n a b (by simpa using h), Bool.and_assoc]
  | n + 1, [], _ :: _, h => by simp at h
  | n + 1, _ :: _, [], h => by simp at h

theorem szT_underlying {t : TypeId} {d : TypeDesc} (h : P.underlying t = some d) : ∃ i, P.info? t = some i := by
  unfold Program.underlying at h
  cases hi : P.info? t with
  | none => simp [hi] at h
  | some i => exact ⟨i, rfl⟩

/-- Two parts of plain cells are held against each other as their cells are. -/
def EqT (P : Program) (X : Cx) (dd : Nat) (t : TypeId) (ks : List PK) : Prop :=
  ∀ (xs ys : List V) (rxs rys : List Value) (off : Nat), RL X xs rxs → RL X ys rys → fitsV ks (rd xs off ks.length) = true → fitsV ks (rd ys off ks.length) = true →
    ∃ a b, (part t rxs.toArray off).run P X.w = .ok a X.w ∧ (part t rys.toArray off).run P X.w = .ok b X.w ∧
      (Op.equalIn dd t a b).run P X.w = .ok (eqVs (rd xs off ks.length) (rd ys off ks.length)) X.w ∧
      (aggT P t = some true → a = .agg ((rxs.drop off).take ks.length).toArray ∧ b = .agg ((rys.drop off).take ks.length).toArray)

theorem fold_prefix (g : Field → Option (List PK)) (c : List PK → Field → List PK → Bool) : ∀ (fs : List Field) (acc ks : List PK),
    fs.foldlM (fun (acc : List PK) f => (g f).bind fun ks => if c acc f ks = true then some (acc ++ ks) else none) acc = some ks → ∃ kr, ks = acc ++ kr
  | [], acc, ks, h => by simp at h; exact ⟨[], by simp [h]⟩
  | f :: fs, acc, ks, h => by
    simp only [List.foldlM_cons, bind, Option.bind_eq_some_iff] at h
    obtain ⟨acc', ⟨kf, _, hif⟩, hrest⟩ := h
    split at hif
    · cases hif
      obtain ⟨kr, hk⟩ := fold_prefix g c fs _ _ hrest
      exact ⟨kf ++ kr, by simp [hk]⟩
    · cases hif

def fieldFits (P : Program) (acc : List PK) (f : Field) (ks : List PK) : Bool := decide (f.name ≠ "_" ∧ f.offset = acc.length ∧ szT P f.type = some ks.length)

theorem rd_rd (cs : List V) (o n p m : Nat) (h : p + m ≤ n) : rd (rd cs o n) p m = rd cs (o + p) m := by
  simp only [rd]
  apply List.ext_getElem?
  intro j
  simp only [List.getElem?_take, List.getElem?_drop]
  by_cases hj : j < m
  · simp [hj, show p + j < n by omega, Nat.add_assoc]
  · simp [hj]

theorem fitsV_part {acc kf kr : List PK} {xs : List V} (h : fitsV (acc ++ (kf ++ kr)) xs = true) : fitsV kf (rd xs acc.length kf.length) = true :=
  (fitsV_append (fitsV_append h).2).1

theorem eqFields_sim (dd : Nat) (g : Field → Option (List PK)) {xs ys : List V} {rxs rys : List Value} (h1 : RL X xs rxs) (h2 : RL X ys rys) : ∀ (fs : List Field) (acc ks : List PK),
    (∀ f ∈ fs, ∀ kf, g f = some kf → EqT P X dd f.type kf) →
    fs.foldlM (fun (acc : List PK) f => (g f).bind fun ks => if fieldFits P acc f ks = true then some (acc ++ ks) else none) acc = some ks →
    fitsV ks xs = true → fitsV ks ys = true →
    (Op.eqFields dd rxs.toArray rys.toArray fs).run P X.w = .ok (eqVs (xs.drop acc.length) (ys.drop acc.length)) X.w
  | [], acc, ks, _, h, hx, hy => by
    simp at h
    subst h
    have e1 := fitsV_length hx
    have e2 := fitsV_length hy
    rw [List.drop_eq_nil_of_le (by omega), List.drop_eq_nil_of_le (by omega)]
    simp [Op.eqFields, eqVs]
  | f :: fs, acc, ks, hall, h, hx, hy => by
    simp only [List.foldlM_cons, bind, Option.bind_eq_some_iff] at h
    obtain ⟨acc', ⟨kf, hkf, hif⟩, hrest⟩ := h
    split at hif
    · rename_i hc
      simp only [fieldFits, decide_eq_true_eq] at hc
      obtain ⟨hn, ho, hsz⟩ := hc
      cases hif
      obtain ⟨kr, hkr⟩ := fold_prefix g (fieldFits P) fs _ _ hrest
      have hks : ks = acc ++ (kf ++ kr) := by simpa using hkr
      have fx := fitsV_part (hks ▸ hx)
      have fy := fitsV_part (hks ▸ hy)
      obtain ⟨a, b, p1, p2, p3, _⟩ := hall f (by simp) kf hkf xs ys rxs rys acc.length h1 h2 fx fy
      have ih := eqFields_sim dd g h1 h2 fs (acc ++ kf) ks (fun x hx => hall x (by simp [hx])) hrest hx hy
      have hl : xs.length = ys.length := by rw [← fitsV_length hx, ← fitsV_length hy]
      have hsplit := eqVs_split kf.length (xs.drop acc.length) (ys.drop acc.length) (by simp [hl])
      simp only [Op.eqFields, hn, ne_eq, not_false_eq_true, if_true, Sem.run_bind, ho, p1, p2, p3, Result.andThen_ok]
      rw [hsplit]
      simp only [List.drop_drop]
      simp only [List.length_append] at ih
      change (if (!(eqVs (rd xs acc.length kf.length) (rd ys acc.length kf.length))) = true then pure false else _ : Sem Bool).run P X.w = .ok (eqVs (rd xs acc.length kf.length) (rd ys acc.length kf.length) && _) X.w
      cases hq : eqVs (rd xs acc.length kf.length) (rd ys acc.length kf.length)
      · simp
      · simpa using ih
    · cases hif

theorem eqItems_sim (dd : Nat) {e : TypeId} {kf : List PK} (IH : EqT P X dd e kf) {xs ys : List V} {rxs rys : List Value} (h1 : RL X xs rxs) (h2 : RL X ys rys) (n : Nat)
    (hx : fitsV (List.replicate n kf).flatten xs = true) (hy : fitsV (List.replicate n kf).flatten ys = true) : ∀ (m k : Nat), k + m = n →
    (Op.eqItems dd e kf.length rxs.toArray rys.toArray (List.range' k m)).run P X.w = .ok (eqVs (xs.drop (k * kf.length)) (ys.drop (k * kf.length))) X.w
  | 0, k, hk => by
    have e1 := fitsV_length hx
    have e2 := fitsV_length hy
    simp at e1 e2
    have : k = n := by omega
    subst this
    rw [List.drop_eq_nil_of_le (by omega), List.drop_eq_nil_of_le (by omega)]
    simp [Op.eqItems, eqVs]
  | m + 1, k, hk => by
    have hrep : (List.replicate n kf).flatten = (List.replicate k kf).flatten ++ (kf ++ (List.replicate m kf).flatten) := by
      rw [show n = k + (m + 1) by omega, ← List.replicate_append_replicate, List.flatten_append, List.replicate_succ, List.flatten_cons]
    have hlk : ((List.replicate k kf).flatten).length = k * kf.length := by simp
    have fx := fitsV_part (hrep ▸ hx)
    have fy := fitsV_part (hrep ▸ hy)
    rw [hlk] at fx fy
    obtain ⟨a, b, p1, p2, p3, _⟩ := IH xs ys rxs rys (k * kf.length) h1 h2 fx fy
    have ih := eqItems_sim dd IH h1 h2 n hx hy m (k + 1) (by omega)
    have hl : xs.length = ys.length := by rw [← fitsV_length hx, ← fitsV_length hy]
    have hsplit := eqVs_split kf.length (xs.drop (k * kf.length)) (ys.drop (k * kf.length)) (by simp [hl])
    simp only [List.range'_succ, Op.eqItems, Sem.run_bind, p1, p2, p3, Result.andThen_ok]
    rw [hsplit]
    simp only [List.drop_drop]
    rw [show k * kf.length + kf.length = (k + 1) * kf.length by rw [Nat.add_mul, Nat.one_mul]]
    change (if (!(eqVs (rd xs (k * kf.length) kf.length) (rd ys (k * kf.length) kf.length))) = true then pure false else _ : Sem Bool).run P X.w = .ok (eqVs (rd xs (k * kf.length) kf.length) (rd ys (k * kf.length) kf.length) && _) X.w
    cases hq : eqVs (rd xs (k * kf.length) kf.length) (rd ys (k * kf.length) kf.length)
    · simp
    · simpa using ih

theorem fits_one {k : PK} {xs : List V} {off : Nat} (h : fitsV [k] (rd xs off 1) = true) : ∃ v, xs[off]? = some v ∧ fitV k v = true ∧ rd xs off 1 = [v] := by
  cases hq : xs[off]? with
  | none =>
    have : rd xs off 1 = [] := by
      simp at hq
      simp [rd, List.drop_eq_nil_of_le hq]
    rw [this] at h; simp [fitsV] at h
  | some v =>
    have hlt : off < xs.length := (List.getElem?_eq_some_iff.1 hq).1
    have : rd xs off 1 = [v] := by
      simp only [rd]
      rw [List.drop_eq_getElem_cons hlt]
      simp [(List.getElem?_eq_some_iff.1 hq).2]
    rw [this] at h
    simp [fitsV] at h
    exact ⟨v, rfl, h, this⟩

theorem eqT_of_kinds (c : Nat) : ∀ (d : Nat) (t : TypeId) (ks : List PK), kindsT P d t = some ks → EqT P X (c + d) t ks
  | 0, t, ks, h => by simp [kindsT] at h
  | d + 1, t, ks, h => by
    intro xs ys rxs rys off h1 h2 fx fy
    unfold kindsT at h
    split at h
    · rename_i hu
      split at h
      · cases h
        obtain ⟨v, hv, hf, hr1⟩ := fits_one fx
        obtain ⟨u, hu', hg, hr2⟩ := fits_one fy
        cases v <;> simp [fitV] at hf
        cases u <;> simp [fitV] at hg
        rename_i a b
        obtain ⟨ra, e1, r1⟩ := h1.get off hv
        obtain ⟨rb, e2, r2⟩ := h2.get off hu'
        cases r1; cases r2
        have hg : aggT P t = some false := by simp [aggT, hu]
        refine ⟨.bool a, .bool b, by simp [part, run_isAgg hg, e1], by simp [part, run_isAgg hg, e2], ?_, by simp [hg]⟩
        simp only [List.length_singleton, hr1, hr2]
        simp [Op.equalIn, run_underlying hu, eqVs, eqV]
      · cases h
    · rename_i k hu
      split at h
      · cases h
        obtain ⟨v, hv, hf, hr1⟩ := fits_one fx
        obtain ⟨u, hu', hg, hr2⟩ := fits_one fy
        cases v <;> simp [fitV] at hf
        cases u <;> simp [fitV] at hg
        rename_i k1 a k2 b
        subst hf hg
        obtain ⟨ra, e1, r1⟩ := h1.get off hv
        obtain ⟨rb, e2, r2⟩ := h2.get off hu'
        cases r1; cases r2
        have hg : aggT P t = some false := by simp [aggT, hu]
        refine ⟨.int k a, .int k b, by simp [part, run_isAgg hg, e1], by simp [part, run_isAgg hg, e2], ?_, by simp [hg]⟩
        simp only [List.length_singleton, hr1, hr2]
        simp [Op.equalIn, run_underlying hu, eqVs, eqV]
      · cases h
    · rename_i hu
      split at h
      · cases h
        obtain ⟨v, hv, hf, hr1⟩ := fits_one fx
        obtain ⟨u, hu', hg, hr2⟩ := fits_one fy
        cases v <;> simp [fitV] at hf
        cases u <;> simp [fitV] at hg
        rename_i a b
        obtain ⟨ra, e1, r1⟩ := h1.get off hv
        obtain ⟨rb, e2, r2⟩ := h2.get off hu'
        cases r1; cases r2
        have hg : aggT P t = some false := by simp [aggT, hu]
        refine ⟨.string a, .string b, by simp [part, run_isAgg hg, e1], by simp [part, run_isAgg hg, e2], ?_, by simp [hg]⟩
        simp only [List.length_singleton, hr1, hr2]
        rw [show c + (d + 1) = (c + d) + 1 from rfl, run_equalIn_string _ _ _ _ _ hu]
        simp [eqVs, eqV]
      · cases h
    · rename_i n e hu
      simp only [Option.bind_eq_some_iff] at h
      obtain ⟨kf, hkf, hif⟩ := h
      split at hif
      · rename_i hc
        cases hif
        have hg : aggT P t = some true := by simp [aggT, hu]
        have hl : ((List.replicate n kf).flatten).length = n * kf.length := by simp
        rw [hl] at fx fy ⊢
        obtain ⟨i, hi⟩ : ∃ i, P.info? e = some i := by
          have := hc.1; simp [szT] at this; obtain ⟨i, hi, _⟩ := this; exact ⟨i, hi⟩
        have hce : P.cellsOf e = kf.length := by
          have := hc.1; simp [szT, hi] at this; simp [Program.cellsOf, hi, this]
        have hsz : (sizeOf t).run P X.w = .ok (n * kf.length) X.w := run_sizeOf hc.2 _
        refine ⟨.agg ((rxs.drop off).take (n * kf.length)).toArray, .agg ((rys.drop off).take (n * kf.length)).toArray, by simp [part, run_isAgg hg, hsz], by simp [part, run_isAgg hg, hsz], ?_, fun _ => ⟨rfl, rfl⟩⟩
        have := eqItems_sim (P := P) (X := X) (c + d) (eqT_of_kinds c d e kf hkf) (xs := rd xs off (n * kf.length)) (ys := rd ys off (n * kf.length)) ((h1.drop off).take _) ((h2.drop off).take _) n fx fy n 0 (by omega)
        rw [show c + (d + 1) = (c + d) + 1 from rfl, run_equalIn_array X.w (c + d) _ _ hu hi, hce]
        simp only [Nat.zero_mul, List.drop_zero] at this
        rw [← List.range_eq_range'] at this
        simpa using this
      · cases hif
    · rename_i fs hu
      split at h
      · cases h
      · rename_i hst
        simp only [Option.bind_eq_some_iff] at h
        obtain ⟨ks', hfold, hif⟩ := h
        split at hif
        · rename_i hc
          cases hif
          have hg : aggT P t = some true := by simp [aggT, hu]
          have hsz : (sizeOf t).run P X.w = .ok ks.length X.w := run_sizeOf hc _
          have hfs : P.fieldsOf t = fs := by simp [Program.fieldsOf, hu]
          refine ⟨.agg ((rxs.drop off).take ks.length).toArray, .agg ((rys.drop off).take ks.length).toArray, by simp [part, run_isAgg hg, hsz], by simp [part, run_isAgg hg, hsz], ?_, fun _ => ⟨rfl, rfl⟩⟩
          have := eqFields_sim (P := P) (X := X) (c + d) (fun f => kindsT P d f.type) (xs := rd xs off ks.length) (ys := rd ys off ks.length) ((h1.drop off).take _) ((h2.drop off).take _) fs.toList [] ks
            (fun f _ kf hkf => eqT_of_kinds c d f.type kf hkf) (by simpa [fieldFits] using hfold) fx fy
          rw [show c + (d + 1) = (c + d) + 1 from rfl, run_equalIn_struct X.w (c + d) t _ _ (by rw [hfs]; exact hu) (by simpa using hst), hfs]
          simpa using this
        · cases hif
    · cases h

/-- '==' of two plain aggregates. -/
def eqAgg (P : Program) (t : TypeId) (xs ys : List V) : Option Bool :=
  match kindsT P 12 t with
  | some ks => if fitsV ks xs = true ∧ fitsV ks ys = true ∧ aggT P t = some true ∧ P.eqGuardType P.depth t = false then some (eqVs xs ys) else none
  | none => none

theorem rd_all_len (cs : List V) (n : Nat) (h : cs.length = n) : rd cs 0 n = cs := by simp [rd, ← h]

theorem eqAgg_sim {t : TypeId} {xs ys : List V} {rxs rys : List Value} (h1 : RL X xs rxs) (h2 : RL X ys rys) {b : Bool} (hb : eqAgg P t xs ys = some b) :
    (Op.equal t (.agg rxs.toArray) (.agg rys.toArray)).run P X.w = .ok b X.w ∧ P.eqGuardType P.depth t = false := by
  unfold eqAgg at hb
  split at hb
  · rename_i ks hks
    split at hb
    · rename_i hc
      obtain ⟨fx, fy, hg, he⟩ := hc
      cases hb
      have l1 := fitsV_length fx
      have l2 := fitsV_length fy
      obtain ⟨a, b, p1, p2, p3, p4⟩ := eqT_of_kinds (P := P) (X := X) 9988 12 t ks hks xs ys rxs rys 0 h1 h2 (by rw [rd_all_len _ _ l1.symm]; exact fx) (by rw [rd_all_len _ _ l2.symm]; exact fy)
      obtain ⟨rfl, rfl⟩ := p4 hg
      rw [rd_all_len _ _ l1.symm, rd_all_len _ _ l2.symm] at p3
      have e1 : List.take ks.length (rxs.drop 0) = rxs := by simp [List.take_of_length_le, l1, h1.length]
      have e2 : List.take ks.length (rys.drop 0) = rys := by simp [List.take_of_length_le, l2, h2.length]
      rw [e1, e2] at p3
      exact ⟨p3, he⟩
    · cases hb
  · cases hb

end
end Go.Ns

/- Ns, part G: numbers, strings, tests, conversions, interface values. -/
namespace Go.Ns
section
variable {P : Program} {X : Cx} {H : Heap}

theorem RL.vconst (X : Cx) : ∀ (l : List Value), RL X (l.map Ns.vconst) l
  | [] => .nil
  | v :: l => .cons _ _ _ _ (R.vconst X v) (RL.vconst X l)

/-- The zero value of a type. -/
theorem zv_sim {t : TypeId} {z : V} (h : zvT P t = some z) : ∃ rz, (∀ w, (zeroValue t).run P w = .ok rz w) ∧ R X z rz := by
  simp only [zvT, Option.bind_eq_some_iff] at h
  obtain ⟨i, hi, rz, hz, h⟩ := h
  refine ⟨rz, fun w => by simp [zeroValue, run_typeInfo hi, hz], ?_⟩
  split at h
  · split at h
    · rename_i c hc
      cases h
      have := R.agg (X := X) (c.toList.map Ns.vconst) c.toList hc (RL.vconst X _)
      simpa using this
    · cases h
  · cases h
  · split at h
    · cases h; exact R.vconst X _
    · cases h

theorem run_equal_np (w : World) (t e : TypeId) (b : Option Addr) (d : Nat) (h : P.underlying t = some (.pointer e)) : (Op.equalIn (d + 1) t (.pointer none) (.pointer b)).run P w = .ok b.isNone w := by
  simp [Op.equalIn, run_underlying h]
theorem run_equal_pn (w : World) (t e : TypeId) (a : Addr) (d : Nat) (h : P.underlying t = some (.pointer e)) : (Op.equalIn (d + 1) t (.pointer (some a)) (.pointer none)).run P w = .ok false w := by
  simp [Op.equalIn, run_underlying h]

/-! ### Two operands -/
def bitV (op : BinOp) (k : IntKind) (x y : Int) : Option Int :=
  let a := BitVec.ofInt k.bits x
  let b := BitVec.ofInt k.bits y
  match op with
  | .and => some (k.wrap (a &&& b).toNat)
  | .or => some (k.wrap (a ||| b).toNat)
  | .xor => some (k.wrap (a ^^^ b).toNat)
  | .andNot => some (k.wrap (a &&& ~~~b).toNat)
  | _ => none

def intV (op : BinOp) (k : IntKind) (x y : Int) : Option V :=
  match op with
  | .add => some (.int k (k.wrap (x + y)))
  | .sub => some (.int k (k.wrap (x - y)))
  | .mul => some (.int k (k.wrap (x * y)))
  | .quo => if y = 0 then none else some (.int k (k.wrap (x.tdiv y)))
  | .rem => if y = 0 then none else some (.int k (x.tmod y))
  | .and | .or | .xor | .andNot => (bitV op k x y).map (.int k)
  | .eql => some (.bool (x == y))
  | .neq => some (.bool (x != y))
  | .lss => some (.bool (x < y))
  | .leq => some (.bool (x ≤ y))
  | .gtr => some (.bool (x > y))
  | .geq => some (.bool (x ≥ y))
  | _ => none

def shV (op : BinOp) (k : IntKind) (x y : Int) : Option V :=
  if y < 0 then none else match op with
  | .shl => some (.int k (k.wrap (x * 2 ^ (min y.toNat k.bits))))
  | .shr => some (.int k (x.fdiv (2 ^ (min y.toNat k.bits))))
  | _ => none

def stV (op : BinOp) (x y : ByteArray) : Option V :=
  match op with
  | .add => if ((x.size + y.size : Nat) : Int) > IntKind.i64.max then none else some (.str (x ++ y))
  | .eql => some (.bool (x.toList == y.toList))
  | .neq => some (.bool !(x.toList == y.toList))
  | .lss => some (.bool (Op.bytesLess x.toList y.toList))
  | .leq => some (.bool (Op.bytesLess x.toList y.toList || x.toList == y.toList))
  | .gtr => some (.bool !(Op.bytesLess x.toList y.toList || x.toList == y.toList))
  | .geq => some (.bool !(Op.bytesLess x.toList y.toList))
  | _ => none

def ptrT (P : Program) (t : TypeId) : Bool := match P.underlying t with | some (.pointer _) => true | _ => false
def boolT (P : Program) (t : TypeId) : Bool := match P.underlying t with | some .bool => true | _ => false

def eqOp (op : BinOp) (b : Bool) : Option V :=
  match op with
  | .eql => some (.bool b)
  | .neq => some (.bool !b)
  | _ => none

def isPtr : V → Bool | .ptr .. | .fptr _ => true | _ => false

def isSlc : V → Bool | .fsl .. | .hsl .. => true | _ => false
def slT (P : Program) (t : TypeId) : Bool := match P.underlying t with | some (.slice _) => true | _ => false

/-- Floats, where nothing is drawn (no new NaN). -/
def fltV (op : BinOp) (k : FloatKind) (a b : Nat) : Option V :=
  match op with
  | .add => (k.format.add a b).map (.flt k)
  | .sub => (k.format.sub a b).map (.flt k)
  | .mul => (k.format.mul a b).map (.flt k)
  | .quo => (k.format.div a b).map (.flt k)
  | .eql => some (.bool (k.format.order a b == some .eq))
  | .neq => some (.bool (k.format.order a b != some .eq))
  | .lss => some (.bool (k.format.order a b == some .lt))
  | .leq => some (.bool (k.format.order a b == some .lt || k.format.order a b == some .eq))
  | .gtr => some (.bool (k.format.order a b == some .gt))
  | .geq => some (.bool (k.format.order a b == some .gt || k.format.order a b == some .eq))
  | _ => none

def binV (P : Program) (op : BinOp) (t : TypeId) (x y : V) : Option V :=
  match x, y with
  | .int k a, .int k' b => if op = .shl ∨ op = .shr then shV op k a b else if k = k' then intV op k a b else none
  | .str a, .str b => stV op a b
  | .bool a, .bool b => if boolT P t then eqOp op (a == b) else none
  | .flt k a, .flt k' b => if k = k' then fltV op k a b else none
  | .agg xs, .agg ys => (eqAgg P t xs ys).bind (eqOp op)
  | .nilp, .nilp => if ptrT P t then eqOp op true else none
  | .nilp, y => if ptrT P t && isPtr y then eqOp op false else none
  | x, .nilp => if ptrT P t && isPtr x then eqOp op false else none
  | .nils, .nils => if slT P t then eqOp op true else none
  | .nils, y => if slT P t && isSlc y then eqOp op false else none
  | x, .nils => if slT P t && isSlc x then eqOp op false else none
  | _, _ => none

theorem run_int {op : BinOp} {k : IntKind} {a b : Int} {t : TypeId} {u : V} (h : (if op = .shl ∨ op = .shr then shV op k a b else intV op k a b) = some u) (w : World) :
    ∃ ru, (binOp op t (.int k a) (.int k b)).run P w = .ok ru w ∧ R X u ru := by
  cases op <;> simp [shV, intV] at h
  case add => subst h; exact ⟨_, by simp [binOp, Op.intArith], .int _ _⟩
  case sub => subst h; exact ⟨_, by simp [binOp, Op.intArith], .int _ _⟩
  case mul => subst h; exact ⟨_, by simp [binOp, Op.intArith], .int _ _⟩
  case quo => obtain ⟨h0, rfl⟩ := h; exact ⟨_, by simp [binOp, Op.intDiv, h0], .int _ _⟩
  case rem => obtain ⟨h0, rfl⟩ := h; exact ⟨_, by simp [binOp, Op.intDiv, h0], .int _ _⟩
  case and => obtain ⟨z, h0, rfl⟩ := h; simp only [bitV, Option.some.injEq] at h0; subst h0; exact ⟨_, by simp [binOp, Op.intBits], .int _ _⟩
  case or => obtain ⟨z, h0, rfl⟩ := h; simp only [bitV, Option.some.injEq] at h0; subst h0; exact ⟨_, by simp [binOp, Op.intBits], .int _ _⟩
  case xor => obtain ⟨z, h0, rfl⟩ := h; simp only [bitV, Option.some.injEq] at h0; subst h0; exact ⟨_, by simp [binOp, Op.intBits], .int _ _⟩
  case andNot => obtain ⟨z, h0, rfl⟩ := h; simp only [bitV, Option.some.injEq] at h0; subst h0; exact ⟨_, by simp [binOp, Op.intBits], .int _ _⟩
  case shl => obtain ⟨h0, rfl⟩ := h; exact ⟨_, by simp [binOp, Op.shift, Int.not_lt.2 h0], .int _ _⟩
  case shr => obtain ⟨h0, rfl⟩ := h; exact ⟨_, by simp [binOp, Op.shift, Int.not_lt.2 h0], .int _ _⟩
  case eql => subst h; exact ⟨_, by simp [binOp, Op.intCmp], .bool _⟩
  case neq => subst h; exact ⟨_, by simp [binOp, Op.intCmp], .bool _⟩
  case lss => subst h; exact ⟨_, by simp [binOp, Op.intCmp], .bool _⟩
  case leq => subst h; exact ⟨_, by simp [binOp, Op.intCmp], .bool _⟩
  case gtr => subst h; exact ⟨_, by simp [binOp, Op.intCmp], .bool _⟩
  case geq => subst h; exact ⟨_, by simp [binOp, Op.intCmp], .bool _⟩

theorem run_flt {op : BinOp} {k : FloatKind} {a b : Nat} {t : TypeId} {u : V} (h : fltV op k a b = some u) (w : World) : ∃ ru, (binOp op t (.float k a) (.float k b)).run P w = .ok ru w ∧ R X u ru := by
  cases op <;> simp only [fltV, reduceCtorEq, Option.map_eq_some_iff, Option.some.injEq] at h
  case add => obtain ⟨r, h1, rfl⟩ := h; exact ⟨_, by simp [binOp, Op.floatArith, h1], .flt _ _⟩
  case sub => obtain ⟨r, h1, rfl⟩ := h; exact ⟨_, by simp [binOp, Op.floatArith, h1], .flt _ _⟩
  case mul => obtain ⟨r, h1, rfl⟩ := h; exact ⟨_, by simp [binOp, Op.floatArith, h1], .flt _ _⟩
  case quo => obtain ⟨r, h1, rfl⟩ := h; exact ⟨_, by simp [binOp, Op.floatArith, h1], .flt _ _⟩
  case eql => subst h; exact ⟨_, by simp [binOp, Op.floatCmp], .bool _⟩
  case neq => subst h; exact ⟨_, by simp [binOp, Op.floatCmp], .bool _⟩
  case lss => subst h; exact ⟨_, by simp [binOp, Op.floatCmp], .bool _⟩
  case leq => subst h; exact ⟨_, by simp [binOp, Op.floatCmp], .bool _⟩
  case gtr => subst h; exact ⟨_, by simp [binOp, Op.floatCmp], .bool _⟩
  case geq => subst h; exact ⟨_, by simp [binOp, Op.floatCmp], .bool _⟩

theorem run_shift {op : BinOp} {k k' : IntKind} {a b : Int} {t : TypeId} {u : V} (ho : op = .shl ∨ op = .shr) (h : shV op k a b = some u) (w : World) :
    ∃ ru, (binOp op t (.int k a) (.int k' b)).run P w = .ok ru w ∧ R X u ru := by
  rcases ho with rfl | rfl <;> simp [shV] at h
  · obtain ⟨h0, rfl⟩ := h; exact ⟨_, by simp [binOp, Op.shift, Int.not_lt.2 h0], .int _ _⟩
  · obtain ⟨h0, rfl⟩ := h; exact ⟨_, by simp [binOp, Op.shift, Int.not_lt.2 h0], .int _ _⟩

theorem run_str {op : BinOp} {a b : ByteArray} {t : TypeId} {u : V} (h : stV op a b = some u) (w : World) : ∃ ru, (binOp op t (.string a) (.string b)).run P w = .ok ru w ∧ R X u ru := by
  cases op <;> simp [stV] at h
  case add => obtain ⟨h0, rfl⟩ := h; exact ⟨_, by simp [binOp, Op.stringOp]; omega, .str _⟩
  case eql => subst h; exact ⟨_, by simp [binOp, Op.stringOp], .bool _⟩
  case neq => subst h; exact ⟨_, by simp [binOp, Op.stringOp], .bool _⟩
  case lss => subst h; exact ⟨_, by simp [binOp, Op.stringOp], .bool _⟩
  case leq => subst h; exact ⟨_, by simp [binOp, Op.stringOp], .bool _⟩
  case gtr => subst h; exact ⟨_, by simp [binOp, Op.stringOp], .bool _⟩
  case geq => subst h; exact ⟨_, by simp [binOp, Op.stringOp], .bool _⟩

theorem run_eqOp {op : BinOp} {t : TypeId} {rx ry : Value} {b : Bool} {u : V} (h : eqOp op b = some u) {w : World} (he : (Op.equal t rx ry).run P w = .ok b w)
    (h1 : ∀ op, op = .eql ∨ op = .neq → binOp op t rx ry = (if op = .eql then (do pure (.bool (← Op.equal t rx ry))) else (do pure (.bool (!(← Op.equal t rx ry)))))) :
    ∃ ru, (binOp op t rx ry).run P w = .ok ru w ∧ R X u ru := by
  cases op <;> simp [eqOp] at h <;> subst h
  · exact ⟨_, by rw [h1 _ (.inl rfl)]; simp [he], .bool _⟩
  · exact ⟨_, by rw [h1 _ (.inr rfl)]; simp [he], .bool _⟩

theorem isPtr_sim {x : V} {rx : Value} (hr : R X x rx) (h : isPtr x = true) : ∃ a, rx = .pointer (some a) := by
  cases hr <;> simp [isPtr] at h
  · exact ⟨_, rfl⟩
  · exact ⟨_, rfl⟩

theorem isSlc_sim {x : V} {rx : Value} (hr : R X x rx) (h : isSlc x = true) : ∃ a n c, rx = .slice (some a) n c := by
  cases hr <;> simp [isSlc] at h
  · exact ⟨_, _, _, rfl⟩
  · exact ⟨_, _, _, rfl⟩
  · exact ⟨_, _, _, rfl⟩
  · exact ⟨_, _, _, rfl⟩

theorem run_eqGuard_slc {op : BinOp} {t : TypeId} {x y : Operand} {a b : Option Addr} {n c n' c' : Nat} (w : World) : (eqGuard op t x y (.slice a n c) (.slice b n' c')).run P w = .ok () w := by
  unfold eqGuard; split <;> simp

theorem run_equal_ns (w : World) (t e : TypeId) (b : Option Addr) (n c n' c' : Nat) (d : Nat) (h : P.underlying t = some (.slice e)) : (Op.equalIn (d + 1) t (.slice none n c) (.slice b n' c')).run P w = .ok b.isNone w := by
  simp [Op.equalIn, run_underlying h]
theorem run_equal_sn (w : World) (t e : TypeId) (a : Addr) (n c n' c' : Nat) (d : Nat) (h : P.underlying t = some (.slice e)) : (Op.equalIn (d + 1) t (.slice (some a) n c) (.slice none n' c')).run P w = .ok false w := by
  simp [Op.equalIn, run_underlying h]

theorem run_eqGuard_ptr {op : BinOp} {t : TypeId} {x y : Operand} {a b : Option Addr} (w : World) : (eqGuard op t x y (.pointer a) (.pointer b)).run P w = .ok () w := by
  unfold eqGuard; split <;> simp

theorem bin_sim {op : BinOp} {t : TypeId} {ox oy : Operand} {x y u : V} {rx ry : Value} (hx : R X x rx) (hy : R X y ry) (hu : binV P op t x y = some u) :
    ∃ ru, (do eqGuard op t ox oy rx ry; binOp op t rx ry : Sem Value).run P X.w = .ok ru X.w ∧ R X u ru := by
  unfold binV at hu
  split at hu
  · rename_i k a k' b
    cases hx; cases hy
    have hg : (eqGuard op t ox oy (.int k a) (.int k' b)).run P X.w = .ok () X.w := by unfold eqGuard; split <;> simp
    split at hu
    · rename_i ho
      obtain ⟨ru, h1, h2⟩ := run_shift (P := P) (X := X) (t := t) (k' := k') ho hu X.w
      exact ⟨ru, by simp [hg, h1], h2⟩
    · rename_i ho
      split at hu
      · rename_i hk; subst hk
        obtain ⟨ru, h1, h2⟩ := run_int (P := P) (X := X) (t := t) (op := op) (k := k) (a := a) (b := b) (u := u) (by rw [if_neg ho]; exact hu) X.w
        exact ⟨ru, by simp [hg, h1], h2⟩
      · cases hu
  · rename_i a b
    cases hx; cases hy
    have hg : (eqGuard op t ox oy (.string a) (.string b)).run P X.w = .ok () X.w := by unfold eqGuard; split <;> simp
    obtain ⟨ru, h1, h2⟩ := run_str (P := P) (X := X) (t := t) hu X.w
    exact ⟨ru, by simp [hg, h1], h2⟩
  · rename_i a b
    cases hx; cases hy
    have hg : (eqGuard op t ox oy (.bool a) (.bool b)).run P X.w = .ok () X.w := by unfold eqGuard; split <;> simp
    split at hu
    · rename_i hb
      have hbt : P.underlying t = some .bool := by unfold boolT at hb; split at hb <;> simp_all
      obtain ⟨ru, h1, h2⟩ := run_eqOp (P := P) (X := X) hu (run_equal_bool X.w t a b hbt) (by rintro op (rfl | rfl) <;> rfl)
      exact ⟨ru, by simp [hg, h1], h2⟩
    · cases hu
  · rename_i k a k' b
    cases hx; cases hy
    have hg : (eqGuard op t ox oy (.float k a) (.float k' b)).run P X.w = .ok () X.w := by unfold eqGuard; split <;> simp
    split at hu
    · rename_i hk
      subst hk
      obtain ⟨ru, h1, h2⟩ := run_flt (P := P) (X := X) (t := t) hu X.w
      exact ⟨ru, by simp [hg, h1], h2⟩
    · cases hu
  · rename_i xs ys
    cases hx with
    | agg _ rxs hall1 hx =>
    cases hy with
    | agg _ rys hall2 hy =>
    simp only [Option.bind_eq_some_iff] at hu
    obtain ⟨b, hb, hu⟩ := hu
    obtain ⟨he, hgt⟩ := eqAgg_sim hx hy hb
    have hg := run_eqGuard_agg (P := P) X.w op t ox oy rxs.toArray rys.toArray hgt
    obtain ⟨ru, h1, h2⟩ := run_eqOp (P := P) (X := X) hu he (by rintro op (rfl | rfl) <;> rfl)
    exact ⟨ru, by simp [hg, h1], h2⟩
  · cases hx; cases hy
    split at hu
    · rename_i hb
      obtain ⟨e, hpt⟩ : ∃ e, P.underlying t = some (.pointer e) := by unfold ptrT at hb; split at hb <;> simp_all
      obtain ⟨ru, h1, h2⟩ := run_eqOp (P := P) (X := X) (t := t) (rx := .pointer none) (ry := .pointer none) (w := X.w) hu (run_equal_np X.w t e none 9999 hpt) (by rintro op (rfl | rfl) <;> rfl)
      exact ⟨ru, by simp [run_eqGuard_ptr, h1], h2⟩
    · cases hu
  · rename_i y _
    cases hx
    split at hu
    · rename_i hb
      simp only [Bool.and_eq_true] at hb
      obtain ⟨a, rfl⟩ := isPtr_sim hy hb.2
      obtain ⟨e, hpt⟩ : ∃ e, P.underlying t = some (.pointer e) := by have := hb.1; unfold ptrT at this; split at this <;> simp_all
      obtain ⟨ru, h1, h2⟩ := run_eqOp (P := P) (X := X) (t := t) (rx := .pointer none) (ry := .pointer (some a)) (w := X.w) hu (run_equal_np X.w t e (some a) 9999 hpt) (by rintro op (rfl | rfl) <;> rfl)
      exact ⟨ru, by simp [run_eqGuard_ptr, h1], h2⟩
    · cases hu
  · rename_i x _ _
    cases hy
    split at hu
    · rename_i hb
      simp only [Bool.and_eq_true] at hb
      obtain ⟨a, rfl⟩ := isPtr_sim hx hb.2
      obtain ⟨e, hpt⟩ : ∃ e, P.underlying t = some (.pointer e) := by have := hb.1; unfold ptrT at this; split at this <;> simp_all
      obtain ⟨ru, h1, h2⟩ := run_eqOp (P := P) (X := X) (t := t) (rx := .pointer (some a)) (ry := .pointer none) (w := X.w) hu (run_equal_pn X.w t e a 9999 hpt) (by rintro op (rfl | rfl) <;> rfl)
      exact ⟨ru, by simp [run_eqGuard_ptr, h1], h2⟩
    · cases hu
  · cases hx; cases hy
    split at hu
    · rename_i hb
      obtain ⟨e, hpt⟩ : ∃ e, P.underlying t = some (.slice e) := by unfold slT at hb; split at hb <;> simp_all
      obtain ⟨ru, h1, h2⟩ := run_eqOp (P := P) (X := X) (t := t) (rx := .slice none 0 0) (ry := .slice none 0 0) (w := X.w) hu (run_equal_ns X.w t e none 0 0 0 0 9999 hpt) (by rintro op (rfl | rfl) <;> rfl)
      exact ⟨ru, by simp [run_eqGuard_slc, h1], h2⟩
    · cases hu
  · rename_i y _ _
    cases hx
    split at hu
    · rename_i hb
      simp only [Bool.and_eq_true] at hb
      obtain ⟨a, n, c, rfl⟩ := isSlc_sim hy hb.2
      obtain ⟨e, hpt⟩ : ∃ e, P.underlying t = some (.slice e) := by have := hb.1; unfold slT at this; split at this <;> simp_all
      obtain ⟨ru, h1, h2⟩ := run_eqOp (P := P) (X := X) (t := t) (rx := .slice none 0 0) (ry := .slice (some a) n c) (w := X.w) hu (run_equal_ns X.w t e (some a) 0 0 n c 9999 hpt) (by rintro op (rfl | rfl) <;> rfl)
      exact ⟨ru, by simp [run_eqGuard_slc, h1], h2⟩
    · cases hu
  · rename_i x _ _ _
    cases hy
    split at hu
    · rename_i hb
      simp only [Bool.and_eq_true] at hb
      obtain ⟨a, n, c, rfl⟩ := isSlc_sim hx hb.2
      obtain ⟨e, hpt⟩ : ∃ e, P.underlying t = some (.slice e) := by have := hb.1; unfold slT at this; split at this <;> simp_all
      obtain ⟨ru, h1, h2⟩ := run_eqOp (P := P) (X := X) (t := t) (rx := .slice (some a) n c) (ry := .slice none 0 0) (w := X.w) hu (run_equal_sn X.w t e a n c 0 0 9999 hpt) (by rintro op (rfl | rfl) <;> rfl)
      exact ⟨ru, by simp [run_eqGuard_slc, h1], h2⟩
    · cases hu
  · cases hu

/-! ### One operand -/
def unV (op : UnOp) (x : V) : Option V :=
  match op, x with
  | .neg, .int k n => some (.int k (k.wrap (0 - n)))
  | .xor, .int k n => (bitV .xor k (if k.signed then -1 else k.max) n).map (.int k)
  | .not, .bool b => some (.bool !b)
  | .neg, .flt k b => some (.flt k (Op.negFloat k b))
  | _, _ => none

theorem un_sim {op : UnOp} {x u : V} {rx : Value} (hx : R X x rx) (hu : unV op x = some u) : ∃ ru, (Op.unary op rx).run P X.w = .ok ru X.w ∧ R X u ru := by
  unfold unV at hu
  split at hu
  · cases hx; cases hu; exact ⟨_, by simp [Op.unary, Op.intArith], .int _ _⟩
  · cases hx
    simp only [bitV, Option.map_some, Option.some.injEq] at hu
    subst hu
    exact ⟨_, by simp [Op.unary, Op.intBits], .int _ _⟩
  · cases hx; cases hu; exact ⟨_, by simp [Op.unary], .bool _⟩
  · cases hx; cases hu; exact ⟨_, by simp [Op.unary], .flt _ _⟩
  · cases hu

def iknT (P : Program) (t : TypeId) : Option IntKind := match P.underlying t with | some (.int k) => some k | _ => none
theorem iknT_spec {t : TypeId} {k : IntKind} (h : iknT P t = some k) : P.underlying t = some (.int k) := by
  unfold iknT at h; split at h <;> simp_all

def fknT (P : Program) (t : TypeId) : Option FloatKind := match P.underlying t with | some (.float k) => some k | _ => none
theorem fknT_spec {t : TypeId} {k : FloatKind} (h : fknT P t = some k) : P.underlying t = some (.float k) := by
  unfold fknT at h; split at h <;> simp_all

/-- A conversion that only computes: between kinds of integers; of floats, where nothing is drawn. -/
def cvV (P : Program) (s d : TypeId) (x : V) : Option V :=
  match x with
  | .int _ n => match iknT P s with
    | some _ => match iknT P d with
      | some k => some (.int k (k.wrap n))
      | none => match fknT P d with
        | some k => some (.flt k (k.nearest n))
        | none => none
    | none => none
  | .flt sk b => match fknT P s with
    | some _ => match iknT P d with
      | some k => match (sk.decode b).toInt .zero with
        | some n => if k.min ≤ n ∧ n ≤ k.max then some (.int k n) else none
        | none => none
      | none => match fknT P d with
        | some k => if sk = k then some (.flt k b) else none
        | none => none
    | none => none
  | _ => none

theorem cv_sim {s d : TypeId} {x u : V} {rx : Value} (hx : R X x rx) (hu : cvV P s d x = some u) : ∃ ru, (convert s d rx).run P X.w = .ok ru X.w ∧ R X u ru := by
  unfold cvV at hu
  split at hu
  · cases hx
    split at hu
    · rename_i k1 h1
      split at hu
      · rename_i k2 h2
        cases hu
        exact ⟨_, by simp [convert, run_underlying (iknT_spec h1), run_underlying (iknT_spec h2), Conv.intToInt], .int _ _⟩
      · split at hu
        · rename_i k2 h2
          cases hu
          exact ⟨_, by simp [convert, run_underlying (iknT_spec h1), run_underlying (fknT_spec h2), Conv.intToFloat], .flt _ _⟩
        · cases hu
    · cases hu
  · cases hx
    split at hu
    · rename_i k1 h1
      split at hu
      · rename_i k2 h2
        split at hu
        · rename_i n hn
          split at hu
          · rename_i hb
            cases hu
            exact ⟨_, by simp [convert, run_underlying (fknT_spec h1), run_underlying (iknT_spec h2), Conv.floatToInt, hn, hb], .int _ _⟩
          · cases hu
        · cases hu
      · split at hu
        · rename_i k2 h2
          split at hu
          · rename_i hk
            subst hk
            cases hu
            exact ⟨_, by simp [convert, run_underlying (fknT_spec h1), run_underlying (fknT_spec h2), Conv.floatToFloat], .flt _ _⟩
          · cases hu
        · cases hu
    · cases hu
  · cases hu

/-- makeInterface -/
def conT (P : Program) (t : TypeId) : Bool := match P.underlying t with | some (.interface _) | none => false | _ => true
def miV (P : Program) (t : TypeId) (x : V) : Option V := if conT P t then some (.ifc t x) else none
theorem mi_sim {t : TypeId} {x u : V} {rx : Value} (hx : R X x rx) (hu : miV P t x = some u) : ∃ ru, (Instr.makeInterface t rx).run P X.w = .ok ru X.w ∧ R X u ru := by
  unfold miV at hu
  split at hu
  · rename_i hc
    cases hu
    refine ⟨_, ?_, .ifc _ _ _ hx⟩
    unfold conT at hc
    cases hd : P.underlying t with
    | none => simp [hd] at hc
    | some d => cases d <;> first | (simp [hd] at hc; done) | simp [Instr.makeInterface, run_underlying hd]
  · cases hu

/-- typeAssert, of the form with ok, to a type that is no interface. -/
def taV (P : Program) (x : V) (t : TypeId) : Option V :=
  if conT P t then match x with
    | .ifc t' v => if t' = t then some (.tup [v, .bool true]) else (zvT P t).map fun z => .tup [z, .bool false]
    | .nili => (zvT P t).map fun z => .tup [z, .bool false]
    | _ => none
  else none

theorem R.pair {a b : V} {ra rb : Value} (h1 : R X a ra) (h2 : R X b rb) : R X (.tup [a, b]) (.tuple #[ra, rb]) := .tup _ [ra, rb] (.cons _ _ _ _ h1 (.cons _ _ _ _ h2 .nil))

theorem ta_sim {x u : V} {s t : TypeId} {rx : Value} (hx : R X x rx) (hu : taV P x t = some u) : ∃ ru, (Instr.typeAssert rx s t true).run P X.w = .ok ru X.w ∧ R X u ru := by
  unfold taV at hu
  split at hu
  · rename_i hc
    have hni : ∀ (y : Value), (y = .nilIface ∨ ∃ t' v, y = .iface t' v) → (Instr.typeAssert y s t true).run P X.w = (match y with
        | .iface t' v => if t' = t then .ok (.tuple #[v, .bool true]) X.w else ((zeroValue t).run P X.w).andThen fun z w' => .ok (.tuple #[z, .bool false]) w'
        | _ => ((zeroValue t).run P X.w).andThen fun z w' => .ok (.tuple #[z, .bool false]) w') := by
      intro y hy
      unfold conT at hc
      cases hd : P.underlying t with
      | none => simp [hd] at hc
      | some d =>
        rcases hy with rfl | ⟨t', v, rfl⟩
        · cases d <;> first | (simp [hd] at hc; done) | simp [Instr.typeAssert, run_underlying hd]
        · cases d <;> first | (simp [hd] at hc; done) | (simp [Instr.typeAssert, run_underlying hd])
    split at hu
    · rename_i t' v
      cases hx with
      | ifc _ _ rv hx =>
      rw [hni _ (.inr ⟨_, _, rfl⟩)]
      split at hu
      · rename_i ht; subst ht
        cases hu
        exact ⟨_, by simp, R.pair hx (.bool _)⟩
      · rename_i ht
        simp only [Option.map_eq_some_iff] at hu
        obtain ⟨z, hz, rfl⟩ := hu
        obtain ⟨rz, h1, h2⟩ := zv_sim (X := X) hz
        exact ⟨_, by simp [ht, h1], R.pair h2 (.bool _)⟩
    · cases hx
      rw [hni _ (.inl rfl)]
      simp only [Option.map_eq_some_iff] at hu
      obtain ⟨z, hz, rfl⟩ := hu
      obtain ⟨rz, h1, h2⟩ := zv_sim (X := X) hz
      exact ⟨_, by simp [h1], R.pair h2 (.bool _)⟩
    · cases hu
  · cases hu

end
end Go.Ns

/- Ns, part H: building, and how the world goes on: a new block, a frozen block, cells written. -/
namespace Go.Ns
section
variable {P : Program} {X : Cx} {H : Heap}

theorem R.one {v : V} {rv : Value} (h : R X v rv) (hc : v.cell = true) : rv.oneCell' = true := by
  cases h <;> simp [V.cell] at hc <;> rfl

theorem RL.one {vs : List V} {rvs : List Value} (h : RL X vs rvs) (hc : vs.all V.cell = true) : ∀ rv ∈ rvs, rv.oneCell' = true := by
  intro rv hm
  obtain ⟨j, hj, rfl⟩ := List.getElem_of_mem hm
  have hlt : j < vs.length := by rw [h.length]; exact hj
  obtain ⟨rv, h1, h2⟩ := h.get j (List.getElem?_eq_getElem hlt)
  rw [List.getElem?_eq_getElem hj] at h1
  cases h1
  exact h2.one (List.all_eq_true.1 hc _ (List.getElem_mem hlt))

/-- A value as cells. -/
def vcells : V → Option (List V)
  | .agg cs => some cs
  | .undef | .tup _ => none
  | v => some [v]

theorem vcells_sim {v : V} {rv : Value} (h : R X v rv) {cs : List V} (hc : vcells v = some cs) : RL X cs rv.cells.toList ∧ cs.all V.cell = true := by
  cases h with
  | undef => simp [vcells] at hc
  | tup => simp [vcells] at hc
  | agg cs' rs hall hr => simp [vcells] at hc; subst hc; exact ⟨by simpa [Value.cells] using hr, hall⟩
  | bool => simp [vcells] at hc; subst hc; exact ⟨.cons _ _ _ _ (.bool _) .nil, rfl⟩
  | int => simp [vcells] at hc; subst hc; exact ⟨.cons _ _ _ _ (.int _ _) .nil, rfl⟩
  | flt => simp [vcells] at hc; subst hc; exact ⟨.cons _ _ _ _ (.flt _ _) .nil, rfl⟩
  | str => simp [vcells] at hc; subst hc; exact ⟨.cons _ _ _ _ (.str _) .nil, rfl⟩
  | nilp => simp [vcells] at hc; subst hc; exact ⟨.cons _ _ _ _ .nilp .nil, rfl⟩
  | ptr _ _ _ _ a b => simp [vcells] at hc; subst hc; exact ⟨.cons _ _ _ _ (.ptr _ _ _ _ a b) .nil, rfl⟩
  | fptr _ _ _ a b c d e => simp [vcells] at hc; subst hc; exact ⟨.cons _ _ _ _ (.fptr _ _ _ a b c d e) .nil, rfl⟩
  | nils => simp [vcells] at hc; subst hc; exact ⟨.cons _ _ _ _ .nils .nil, rfl⟩
  | fsl _ _ _ _ _ _ a b c d e f g => simp [vcells] at hc; subst hc; exact ⟨.cons _ _ _ _ (.fsl _ _ _ _ _ _ a b c d e f g) .nil, rfl⟩
  | emp => simp [vcells] at hc; subst hc; exact ⟨.cons _ _ _ _ (.emp _ _) .nil, rfl⟩
  | emp0 => simp [vcells] at hc; subst hc; exact ⟨.cons _ _ _ _ (.emp0 _) .nil, rfl⟩
  | hsl _ _ _ _ _ _ _ _ _ a b c d e => simp [vcells] at hc; subst hc; exact ⟨.cons _ _ _ _ (.hsl _ _ _ _ _ _ _ _ _ a b c d e) .nil, rfl⟩
  | nilm => simp [vcells] at hc; subst hc; exact ⟨.cons _ _ _ _ .nilm .nil, rfl⟩
  | map _ _ a => simp [vcells] at hc; subst hc; exact ⟨.cons _ _ _ _ (.map _ _ a) .nil, rfl⟩
  | nilf => simp [vcells] at hc; subst hc; exact ⟨.cons _ _ _ _ .nilf .nil, rfl⟩
  | fn _ _ _ a1 a => simp [vcells] at hc; subst hc; exact ⟨.cons _ _ _ _ (.fn _ _ _ a1 a) .nil, rfl⟩
  | fnb _ _ _ _ _ a1 a => simp [vcells] at hc; subst hc; exact ⟨.cons _ _ _ _ (.fnb _ _ _ _ _ a1 a) .nil, rfl⟩
  | nili => simp [vcells] at hc; subst hc; exact ⟨.cons _ _ _ _ .nili .nil, rfl⟩
  | ifc _ _ _ a => simp [vcells] at hc; subst hc; exact ⟨.cons _ _ _ _ (.ifc _ _ _ a) .nil, rfl⟩

/-! ### Building -/
/-- Where the parts of a struct or array stand: offset, size. -/
def plsT (P : Program) (t : TypeId) : Option (List (Nat × Nat)) :=
  match P.underlying t with
  | some (.struct fs) => fs.toList.mapM fun f => (P.info? f.type).map fun i => (f.offset, i.size)
  | some (.array n e) => (P.info? e).map fun i => (List.range n).map fun k => (k * i.size, i.size)
  | _ => none

def fillV (ps : List (Nat × Nat)) : List V → List (Nat × V) → Option (List V)
  | cs, [] => some cs
  | cs, (i, v) :: rest => match ps[i]?, vcells v with
    | some (off, size), some vs => if vs.length = size ∧ off + size ≤ cs.length then fillV ps (wr cs off vs) rest else none
    | _, _ => none

theorem vconst_agg (v : Value) (zs : List V) : vconst v ≠ .agg zs := by
  unfold vconst; split <;> simp

def bdV (P : Program) (t : TypeId) (parts : List (Nat × V)) : Option V :=
  match zvT P t, plsT P t with
  | some (.agg zs), some ps => (fillV ps zs parts).map .agg
  | _, _ => none

theorem foldl_set (off : Nat) : ∀ (vs : List Value) (k : Nat) (cs : Array Value), off + k + vs.length ≤ cs.size →
    (vs.zipIdx k).foldl (fun cs (x : Value × Nat) => cs.setIfInBounds (off + x.2) x.1) cs = (cs.toList.take (off + k) ++ vs ++ cs.toList.drop (off + k + vs.length)).toArray
  | [], k, cs, _ => by simp
  | v :: vs, k, cs, h => by
    simp only [List.zipIdx_cons, List.foldl_cons]
    simp only [List.length_cons] at h
    rw [foldl_set off vs (k + 1) (cs.setIfInBounds (off + k) v) (by simp; omega)]
    congr 1
    have e := list_seg_step cs.toList (off + k) v vs (by simp; omega)
    simp only [Array.toList_setIfInBounds, List.length_cons]
    rw [show off + (k + 1) = off + k + 1 by omega]
    exact e

inductive PL (X : Cx) : List (Nat × V) → List (Nat × Value) → Prop
  | nil : PL X [] []
  | cons (i : Nat) (v : V) (rv : Value) (vs : List (Nat × V)) (rvs : List (Nat × Value)) : R X v rv → PL X vs rvs → PL X ((i, v) :: vs) ((i, rv) :: rvs)

theorem wr_sim {cs vs : List V} {rcs rvs : List Value} (h : RL X cs rcs) (hv : RL X vs rvs) (off : Nat) : RL X (wr cs off vs) (rcs.take off ++ rvs ++ rcs.drop (off + rvs.length)) := by
  have := ((h.take off).append hv).append (h.drop (off + vs.length))
  rw [hv.length] at this
  simpa [wr, hv.length] using this

theorem fill_sim {place : Nat → Option (Nat × Nat)} {ps : List (Nat × Nat)} (hp : ∀ i x, ps[i]? = some x → place i = some x) : ∀ {parts : List (Nat × V)} {rparts : List (Nat × Value)}, PL X parts rparts →
    ∀ {cs cs' : List V} {rcs : Array Value}, RL X cs rcs.toList → cs.all V.cell = true → fillV ps cs parts = some cs' → ∃ rcs', Instr.fill place rcs rparts = some rcs' ∧ RL X cs' rcs'.toList ∧ cs'.all V.cell = true
  | _, _, .nil, cs, cs', rcs, hr, hall, h => by
    simp [fillV] at h; subst h
    exact ⟨rcs, rfl, hr, hall⟩
  | _, _, .cons i v rv vs rvs h1 h2, cs, cs', rcs, hr, hall, h => by
    simp only [fillV] at h
    split at h
    · rename_i off size us hps hvc
      split at h
      · rename_i hc
        obtain ⟨hR, hall'⟩ := vcells_sim h1 hvc
        have hlen := hR.length
        have hl0 := hr.length
        simp only [Array.length_toList] at hlen hl0
        have hw := wr_sim hr hR off
        obtain ⟨rcs', e1, e2, e3⟩ := fill_sim hp h2 (rcs := (rcs.toList.take off ++ rv.cells.toList ++ rcs.toList.drop (off + rv.cells.toList.length)).toArray) (by simpa using hw) (wr_all hall hall' off) h
        refine ⟨rcs', ?_, e2, e3⟩
        simp only [Instr.fill, hp i _ hps]
        have hne : ¬ (rv.cells.size ≠ size || decide (off + rv.cells.size > rcs.size)) = true := by simp; omega
        rw [if_neg hne]
        have hfs := foldl_set off rv.cells.toList 0 rcs (by simp; omega)
        have hz : rv.cells.zipIdx.foldl (fun cs (x : Value × Nat) => cs.setIfInBounds (off + x.2) x.1) rcs = (rv.cells.toList.zipIdx 0).foldl (fun cs (x : Value × Nat) => cs.setIfInBounds (off + x.2) x.1) rcs := by
          rw [← Array.foldl_toList]; simp [Array.toList_zipIdx]
        simp only [Nat.add_zero] at hfs
        rw [hfs] at hz
        have e1' := e1
        rw [← hz] at e1'
        exact e1'
      · cases h
    · cases h

theorem bd_sim {t : TypeId} {parts : List (Nat × V)} {rparts : List (Nat × Value)} {u : V} (hp : PL X parts rparts) (hu : bdV P t parts = some u) :
    ∃ ru, (∀ w, (Instr.build t rparts.toArray).run P w = .ok ru w) ∧ R X u ru := by
  unfold bdV at hu
  split at hu
  · rename_i zs ps hz hps
    simp only [Option.map_eq_some_iff] at hu
    obtain ⟨cs, hcs, rfl⟩ := hu
    simp only [zvT, Option.bind_eq_some_iff] at hz
    obtain ⟨i, hi, rz, hrz, hz⟩ := hz
    split at hz
    · split at hz
      · rename_i c hc
        cases hz
        unfold plsT at hps
        split at hps
        · rename_i fs hu
          obtain ⟨rcs', e1, e2, e3⟩ := fill_sim (X := X) (place := fun i => ps.toArray[i]?) (ps := ps) (fun i x h => by simpa using h) hp (rcs := c) (RL.vconst X _) hc hcs
          refine ⟨.agg rcs', fun w => ?_, by have := R.agg (X := X) cs rcs'.toList e3 e2; simpa using this⟩
          exact run_build w t rparts.toArray rcs' (by simp only [Program.built, hi, hu, hrz, hps, Value.cells]; exact e1)
        · rename_i n e hu
          simp only [Option.map_eq_some_iff] at hps
          obtain ⟨ie, hie, rfl⟩ := hps
          obtain ⟨rcs', e1, e2, e3⟩ := fill_sim (X := X) (place := fun i => some (i * ie.size, ie.size)) (ps := (List.range n).map fun k => (k * ie.size, ie.size))
            (fun i x h => by
              rw [List.getElem?_map] at h
              simp only [Option.map_eq_some_iff] at h
              obtain ⟨k, hk, rfl⟩ := h
              have hlt := (List.getElem?_eq_some_iff.1 hk).1
              simp at hlt
              rw [List.getElem?_range hlt] at hk
              cases hk; rfl) hp (rcs := c) (RL.vconst X _) hc hcs
          refine ⟨.agg rcs', fun w => ?_, by have := R.agg (X := X) cs rcs'.toList e3 e2; simpa using this⟩
          exact run_build w t rparts.toArray rcs' (by simp only [Program.built, hi, hu, hrz, hie, Value.cells]; exact e1)
        · cases hps
      · cases hz
    · cases hz
    · split at hz
      · simp only [Option.some.injEq] at hz; exact absurd hz (vconst_agg _ _)
      · cases hz
  · cases hu

end
end Go.Ns

/- Ns, part I: how the world goes on: a new block, a frozen block, cells written; and the operations that do so. -/
namespace Go.Ns
section
variable {P : Program} {X : Cx} {H : Heap}

def Low (base : Nat) (H H' : Heap) : Prop := (∀ id, id < base → H'.get id = H.get id) ∧ H.n ≤ H'.n
theorem Low.refl (base : Nat) (H : Heap) : Low base H H := ⟨fun _ _ => rfl, Nat.le_refl _⟩
theorem Low.trans {base : Nat} {A B C : Heap} (h : Low base A B) (k : Low base B C) : Low base A C := ⟨fun id hi => (k.1 id hi).trans (h.1 id hi), Nat.le_trans h.2 k.2⟩

def World.pushed (w : World) (o : Obj) : World := { w with heap := w.heap.push o }

/-- A new abstract block. -/
def Cx.push (X : Cx) (n : Nat) (o : Obj) : Cx := { L := fun id => if id = n then .live X.w.heap.size 0 else X.L id, FB := X.FB, w := { X.w with heap := X.w.heap.push o } }
/-- A new block that is frozen at once. -/
def Cx.ice (X : Cx) (o : Obj) : Cx := { L := X.L, FB := fun b => X.FB b ∨ b = X.w.heap.size, w := { X.w with heap := X.w.heap.push o } }
/-- A block's cells are others now. -/
def Cx.row (X : Cx) (b : Nat) (c : Array Value) : Cx := { X with w := X.w.setRow b c }

theorem heap_push_lt {w : World} {o : Obj} {b : Nat} (h : b < w.heap.size) : (w.heap.push o)[b]? = w.heap[b]? := by
  rw [Array.getElem?_push, if_neg (by omega)]

theorem shape_push {w : World} {o : Obj} {b : Nat} {s : TypeId × Nat} (h : w.shape? b = some s) : ({ w with heap := w.heap.push o } : World).shape? b = some s := by
  have hlt : b < w.heap.size := by
    rcases Nat.lt_or_ge b w.heap.size with hb | hb
    · exact hb
    · simp [World.shape?, Array.getElem?_eq_none hb] at h
  simp only [World.shape?, heap_push_lt hlt] at h ⊢
  exact h

theorem ext_push (h : HR X H) (o : Obj) {base : Nat} (hb : base ≤ H.n) : Ext base X (X.push H.n o) where
  links id := by
    simp only [Cx.push]
    split
    · rename_i hi; rw [h.fresh id (by omega)]; trivial
    · exact .refl _
  low id hi := by simp only [Cx.push]; rw [if_neg (by omega)]
  fb b hb := hb
  frozen b hb := heap_push_lt (h.fbs b hb)
  shapes b s hs := shape_push hs
  size := by simp [Cx.push]
  os := rfl
  tape := rfl
  output := rfl

theorem ext_ice (h : HR X H) (o : Obj) {base : Nat} : Ext base X (X.ice o) where
  links id := .refl _
  low id hi := rfl
  fb b hb := .inl hb
  frozen b hb := heap_push_lt (h.fbs b hb)
  shapes b s hs := shape_push hs
  size := by simp [Cx.ice]
  os := rfl
  tape := rfl
  output := rfl

theorem hr_push (h : HR X H) {o : HObj} {ob : Obj} (ho : ObjR X o 0 ob) : HR (X.push H.n ob) (H.new o) where
  fresh id hi := by
    simp only [Heap.new] at hi
    simp only [Cx.push]
    rw [if_neg (by omega)]
    exact h.fresh id (by omega)
  live id b g hl := by
    simp only [Cx.push] at hl ⊢
    split at hl
    · rename_i hi
      cases hl
      refine ⟨o, ob, by simp [Heap.new, hi], by simp, fun hf => absurd (h.fbs _ hf) (by omega), ?_⟩
      exact ho.mono (ext_push h ob (base := 0) (Nat.zero_le _))
    · rename_i hi
      obtain ⟨o', ob', h1, h2, h3, h4⟩ := h.live id b g hl
      have hlt : b < X.w.heap.size := (Array.getElem?_eq_some_iff.1 h2).1
      exact ⟨o', ob', by simp [Heap.new, hi, h1], by rw [heap_push_lt hlt]; exact h2, h3, h4.mono (ext_push h ob (base := 0) (Nat.zero_le _))⟩
  dead id hl := by
    simp only [Cx.push] at hl
    split at hl
    · cases hl
    · rename_i hi; simp [Heap.new, hi, h.dead id hl]
  inj i j b g g' hi hj := by
    simp only [Cx.push] at hi hj
    split at hi <;> split at hj
    · omega
    · cases hi
      obtain ⟨_, _, _, h2, _⟩ := h.live j _ _ hj
      have hlt := (Array.getElem?_eq_some_iff.1 h2).1
      omega
    · cases hj
      obtain ⟨_, _, _, h2, _⟩ := h.live i _ _ hi
      have hlt := (Array.getElem?_eq_some_iff.1 h2).1
      omega
    · exact h.inj i j b g g' hi hj
  fbs b hb := by
    have := h.fbs b hb
    simp [Cx.push]; omega

theorem hr_ice (h : HR X H) (ob : Obj) : HR (X.ice ob) H where
  fresh id hi := h.fresh id hi
  live id b g hl := by
    obtain ⟨o', ob', h1, h2, h3, h4⟩ := h.live id b g hl
    have hlt : b < X.w.heap.size := (Array.getElem?_eq_some_iff.1 h2).1
    exact ⟨o', ob', h1, by simp only [Cx.ice]; rw [heap_push_lt hlt]; exact h2, by simp only [Cx.ice]; rintro (hf | hf) <;> first | exact h3 hf | omega, h4.mono (ext_ice h ob (base := 0))⟩
  dead id hl := h.dead id hl
  inj := h.inj
  fbs b hb := by
    simp only [Cx.ice, Array.size_push] at hb ⊢
    rcases hb with hb | hb
    · have := h.fbs b hb; omega
    · omega

theorem ext_row (h : HR X H) {id b g : Nat} (hL : X.L id = .live b g) {c c' : Array Value} {e : TypeId} {fz : Nat × Nat} (hb : X.w.heap[b]? = some (.cells c e fz)) (hs : c'.size = c.size) {base : Nat} : Ext base X (X.row b c') where
  links id := .refl _
  low id hi := rfl
  fb b hb := hb
  frozen k hk := by
    obtain ⟨_, _, _, _, hf, _⟩ := h.live id b g hL
    exact setRow_other X.w b k c' (fun e => hf (e ▸ hk))
  shapes k s hk := by
    by_cases hkb : k = b
    · subst hkb
      simp only [World.shape?, hb] at hk
      simp only [Cx.row, World.shape?, setRow_heap X.w k c c' e fz hb, hs]
      exact hk
    · simp only [Cx.row, World.shape?, setRow_other X.w b k c' hkb] at hk ⊢
      exact hk
  size := by simp [Cx.row]
  os := rfl
  tape := rfl
  output := rfl

theorem hr_row (h : HR X H) {id b g : Nat} (hL : X.L id = .live b g) {c c' : Array Value} {e : TypeId} {fz : Nat × Nat} (hb : X.w.heap[b]? = some (.cells c e fz)) (hs : c'.size = c.size) {cs' : List V}
    (hall : cs'.all V.cell = true) (hlen : cs'.length ≤ c'.size) (hR : ∀ (j : Nat) (v : V) (rv : Value), cs'[j]? = some v → c'[j]? = some rv → R X v rv) (hfz : ∀ o, o < c.size → ¬ (fz.1 ≤ o ∧ o < fz.2)) :
    HR (X.row b c') (H.set id (.cells g cs')) where
  fresh k hk := h.fresh k hk
  live k b' g' hl := by
    simp only [Cx.row, Heap.set] at hl ⊢
    by_cases hk : k = id
    · subst hk
      rw [hL] at hl; cases hl
      obtain ⟨_, _, _, _, hf, _⟩ := h.live k b g hL
      refine ⟨.cells g cs', .cells c' e fz, by simp, setRow_heap X.w b c c' e fz hb, hf, rfl, hall, hlen, fun j v rv h1 h2 => ?_, fun o ho => hfz o (by omega)⟩
      exact R.mono (ext_row h hL hb hs (base := 0)) (hR j v rv h1 h2)
    · obtain ⟨o', ob', h1, h2, h3, h4⟩ := h.live k b' g' hl
      have hne : b' ≠ b := fun e => hk (h.inj k id b' g' g hl (e ▸ hL))
      exact ⟨o', ob', by simp [hk, h1], by rw [setRow_other X.w b b' c' hne]; exact h2, h3, h4.mono (ext_row h hL hb hs (base := 0))⟩
  dead k hl := by
    have : k ≠ id := fun e => by subst e; simp [Cx.row, hL] at hl
    simp [Heap.set, this, h.dead k hl]
  inj := h.inj
  fbs k hk := by have := h.fbs k hk; simpa [Cx.row] using this

/-- Cells written into a block of which nothing is shared with a string. -/
theorem run_storeCells_free (g o : Nat) (t : TypeId) (fz : Nat × Nat) : ∀ (vs : List Value) (i : Nat) (cur : Array Value) (w : World), w.heap[g]? = some (.cells cur t fz) → (∀ o, o < cur.size → ¬ (fz.1 ≤ o ∧ o < fz.2)) →
    o + i + vs.length ≤ cur.size → (∀ v ∈ vs, v.oneCell' = true) →
    (storeCells ⟨g, o, none⟩ vs i).run P w = .ok () (w.setRow g (cur.toList.take (o + i) ++ vs ++ cur.toList.drop (o + i + vs.length)).toArray)
  | [], i, cur, w, hg, _, _, _ => by
    simp only [storeCells, List.append_nil, List.length_nil, Nat.add_zero, List.take_append_drop, Array.toArray_toList]
    rw [setRow_self w g cur t fz hg]
    rfl
  | v :: rest, i, cur, w, hg, hf, hl, h1 => by
    have hi : o + i < cur.size := by simp at hl; omega
    have hcell : w.cell? ⟨g, o + i, none⟩ = some cur[o + i] := by simp [World.cell?, hg, hi]
    have hfro : w.frozen? ⟨g, o + i, none⟩ = false := by
      have := hf (o + i) hi
      simp only [World.frozen?, hg]
      simp only [Bool.and_eq_false_iff, decide_eq_false_iff_not]
      omega
    have hst : (store ((⟨g, o, none⟩ : Addr).add i) v).run P w = .ok () (w.setRow g (cur.setIfInBounds (o + i) v)) := by
      rw [Addr.add_mk, run_store P w _ v _ (h1 v (by simp)), hcell]
      simp [hfro, setCell_eq_setRow w g (o + i) cur t fz v hg]
    have ih := run_storeCells_free g o t fz rest (i + 1) (cur.setIfInBounds (o + i) v) (w.setRow g (cur.setIfInBounds (o + i) v)) (setRow_heap w g cur _ t _ hg) (by simpa using hf) (by simp at hl ⊢; omega) (fun x hx => h1 x (by simp [hx]))
    simp only [storeCells, Sem.run_bind, hst, Result.andThen_ok, ih, setRow_setRow]
    congr 3
    have e := list_seg_step cur.toList (o + i) v rest (by simp at hl ⊢; omega)
    simpa [Array.toList_setIfInBounds, Nat.add_assoc] using e

/-- What an effect leaves. -/
def Eff (base : Nat) (X : Cx) (H : Heap) (H' : Heap) (u : V) (rv : Value) (w' : World) : Prop :=
  ∃ X' : Cx, X'.w = w' ∧ HR X' H' ∧ Ext base X X' ∧ Low base H H' ∧ R X' u rv

theorem low_new {base : Nat} (hb : base ≤ H.n) (o : HObj) : Low base H (H.new o) := ⟨fun id hi => by simp [Heap.new]; omega, by simp [Heap.new]⟩
theorem low_set {base id : Nat} (hb : base ≤ id) (o : HObj) : Low base H (H.set id o) := ⟨fun k hk => by simp [Heap.set]; omega, Nat.le_refl _⟩

theorem objR_cells {cs : List V} {rcs : List Value} {e : TypeId} (hr : RL X cs rcs) (hall : cs.all V.cell = true) : ObjR X (.cells 0 cs) 0 (.cells rcs.toArray e) :=
  ⟨rfl, hall, by simp [hr.length], fun j v rv h1 h2 => by
    obtain ⟨rv', h3, h4⟩ := hr.get j h1
    simp only [List.getElem?_toArray] at h2
    rw [h3] at h2; cases h2; exact h4, fun o _ => by omega⟩

/-- alloc, box: a new block of these cells. -/
def newV (H : Heap) (cs : List V) : V × Heap := (.ptr H.n 0 0, H.new (.cells 0 cs))

theorem new_sim (h : HR X H) {base : Nat} (hb : base ≤ H.n) {cs : List V} {rcs : List Value} (hr : RL X cs rcs) (hall : cs.all V.cell = true) (e : TypeId) :
    Eff base X H (newV H cs).2 (newV H cs).1 (.pointer (some ⟨X.w.heap.size, 0, none⟩)) { X.w with heap := X.w.heap.push (.cells rcs.toArray e) } :=
  ⟨X.push H.n (.cells rcs.toArray e), rfl, hr_push h (objR_cells hr hall), ext_push h _ hb, low_new hb _, .ptr _ _ _ _ rfl (by simp [Cx.push, PLink])⟩

def alV (P : Program) (H : Heap) (t : TypeId) : Option (V × Heap) := (zvT P t).bind fun z => (vcells z).map fun cs => newV H cs

theorem al_sim (h : HR X H) {base : Nat} (hb : base ≤ H.n) {t : TypeId} {u : V} {H' : Heap} (hu : alV P H t = some (u, H')) :
    ∃ ru w', (Instr.alloc t true (.tuple #[])).run P X.w = .ok ru w' ∧ Eff base X H H' u ru w' := by
  simp only [alV, Option.bind_eq_some_iff, Option.map_eq_some_iff] at hu
  obtain ⟨z, hz, cs, hcs, he⟩ := hu
  obtain ⟨rz, h1, h2⟩ := zv_sim (X := X) hz
  obtain ⟨h3, h4⟩ := vcells_sim h2 hcs
  have := new_sim h hb h3 h4 t
  rw [he] at this
  exact ⟨_, _, by simp [Instr.alloc, h1, newVar, newRow]; exact ⟨rfl, rfl⟩, by simpa using this⟩

def bxV (H : Heap) (x : V) : Option (V × Heap) := (vcells x).map fun cs => newV H cs

theorem bx_sim (h : HR X H) {base : Nat} (hb : base ≤ H.n) {t : TypeId} {x u : V} {rx : Value} {H' : Heap} (hx : R X x rx) (hu : bxV H x = some (u, H')) :
    ∃ ru w', (Instr.box t rx).run P X.w = .ok ru w' ∧ Eff base X H H' u ru w' := by
  simp only [bxV, Option.map_eq_some_iff] at hu
  obtain ⟨cs, hcs, he⟩ := hu
  obtain ⟨h3, h4⟩ := vcells_sim hx hcs
  have := new_sim h hb h3 h4 t
  rw [he] at this
  exact ⟨_, _, by simp [Instr.box, newVar, newRow]; exact ⟨rfl, rfl⟩, by simpa using this⟩

/-- store -/
def stoV (P : Program) (base : Nat) (H : Heap) (t : TypeId) (a x : V) : Option Heap :=
  match a, szT P t, vcells x with
  | .ptr id g o, some s, some vs => match H.get id with
    | some (.cells g' cs) => if g' = g ∧ vs.length = s ∧ o + s ≤ cs.length ∧ base ≤ id then some (H.set id (.cells g (wr cs o vs))) else none
    | _ => none
  | _, _, _ => none

/-- Cells of a block written, from o on. -/
theorem write_sim (h : HR X H) {base id g o b : Nat} {cs vs : List V} {c : Array Value} {e : TypeId} {fz : Nat × Nat} (hL : X.L id = .live b g) (hblk : X.w.heap[b]? = some (.cells c e fz))
    (hall : cs.all V.cell = true) (hsz : cs.length ≤ c.size) (hR : ∀ (j : Nat) (v : V) (rv : Value), cs[j]? = some v → c[j]? = some rv → R X v rv) (hfz : ∀ o, o < c.size → ¬ (fz.1 ≤ o ∧ o < fz.2))
    {rvs : List Value} (hv : RL X vs rvs) (hva : vs.all V.cell = true) (ho : o ≤ cs.length) (hfit : o + vs.length ≤ c.size) :
    (storeCells ⟨b, o, none⟩ rvs).run P X.w = .ok () (X.w.setRow b (c.toList.take o ++ rvs ++ c.toList.drop (o + rvs.length)).toArray) ∧
      HR (X.row b (c.toList.take o ++ rvs ++ c.toList.drop (o + rvs.length)).toArray) (H.set id (.cells g (wr cs o vs))) ∧ Ext base X (X.row b (c.toList.take o ++ rvs ++ c.toList.drop (o + rvs.length)).toArray) := by
  have hl := hv.length
  have hsize : (c.toList.take o ++ rvs ++ c.toList.drop (o + rvs.length)).toArray.size = c.size := by simp; omega
  refine ⟨by simpa using run_storeCells_free (P := P) b o e fz rvs 0 c X.w hblk hfz (by omega) (hv.one hva), ?_, ext_row h hL hblk hsize⟩
  refine hr_row h hL hblk hsize (wr_all hall hva o) ?_ ?_ hfz
  · rw [hsize]; simp [wr]; omega
  · have hc : RL X cs (c.toList.take cs.length) := by
      refine RL.of_get (by simp; omega) fun j v rv h1 h2 => hR j v rv h1 ?_
      rw [List.getElem?_take] at h2
      split at h2
      · simpa using h2
      · cases h2
    intro j v rv h1 h2
    simp only [List.getElem?_toArray] at h2
    have hw := wr_sim hc hv o
    obtain ⟨rv', h3, h4⟩ := hw.get j h1
    have hjl : j < (wr cs o vs).length := (List.getElem?_eq_some_iff.1 h1).1
    have : rv' = rv := by
      have e1 : List.take o (List.take cs.length c.toList) = List.take o c.toList := by rw [List.take_take]; congr 1; omega
      rw [e1] at h3
      simp only [List.append_assoc, List.getElem?_append, List.length_take, List.getElem?_take, List.getElem?_drop] at h2 h3
      simp only [Array.length_toList] at h2 h3
      by_cases q1 : j < min o c.size
      · rw [if_pos q1] at h2 h3; rw [h2] at h3; cases h3; rfl
      · rw [if_neg q1] at h2 h3
        by_cases q2 : j - min o c.size < rvs.length
        · rw [if_pos q2] at h2 h3; rw [h2] at h3; cases h3; rfl
        · rw [if_neg q2] at h2 h3
          split at h3
          · rw [h2] at h3; cases h3; rfl
          · cases h3
    subst this
    exact h4

theorem sto_sim (h : HR X H) {base : Nat} {t : TypeId} {a x : V} {ra rx : Value} {H' : Heap} (ha : R X a ra) (hx : R X x rx) (hu : stoV P base H t a x = some H') :
    ∃ w' X', (Instr.storeAt t ra rx).run P X.w = .ok () w' ∧ X'.w = w' ∧ HR X' H' ∧ Ext base X X' ∧ Low base H H' := by
  unfold stoV at hu
  split at hu
  · rename_i id g o s vs hs hvs
    split at hu
    · rename_i g' cs hget
      split at hu
      · rename_i hc
        obtain ⟨rfl, hvl, hfit, hb⟩ := hc
        cases hu
        cases ha with
        | ptr _ _ _ a hsp hl =>
        obtain ⟨b, c, e, fz, hL, ⟨hb1, hb2⟩, hblk, hf, hall, hsz, hR, hfz⟩ := h.block hl hget
        obtain ⟨h3, h4⟩ := vcells_sim hx hvs
        obtain ⟨w1, w2, w3⟩ := write_sim (P := P) (base := base) h hL hblk hall hsz hR hfz h3 h4 (o := o) (by omega) (by omega)
        refine ⟨_, _, ?_, rfl, w2, w3, low_set hb _⟩
        have hl3 := h3.length
        simp only [Array.length_toList] at hl3
        rw [Addr.eta hsp, hb1, hb2]
        have hne : ¬ rx.cells.size ≠ s := by omega
        simp [Instr.storeAt, Instr.sureAddr, storeVar, run_sizeOf hs, hne, w1, Cx.row]
      · cases hu
    · cases hu
  · cases hu

end
end Go.Ns

/- Ns, part J: slices that grow, are made, are cleared; literals of slices. -/
namespace Go.Ns
section
variable {P : Program} {X : Cx} {H : Heap}

/-! ### Draws -/
def Cx.drew (X : Cx) : Cx := { X with w := { X.w with drawn := X.w.drawn + 1 } }
theorem ext_drew (X : Cx) (base : Nat) : Ext base X X.drew := ⟨fun _ => .refl _, fun _ _ => rfl, fun _ h => h, fun _ _ => rfl, fun _ _ h => h, Nat.le_refl _, rfl, rfl, rfl⟩
theorem hr_drew (h : HR X H) : HR X.drew H :=
  ⟨h.fresh, fun id b g hl => let ⟨o, ob, h1, h2, h3, h4⟩ := h.live id b g hl; ⟨o, ob, h1, h2, h3, h4.mono (ext_drew X 0)⟩, h.dead, h.inj, h.fbs⟩

/-! ### What is in a slice -/
def xcells (H : Heap) (sz : Nat) (x : V) : Option (Nat × List V) :=
  match x with
  | .nils => some (0, [])
  | .fsl _ n cs => if n * sz ≤ cs.length then some (n, cs.take (n * sz)) else none
  | .hsl id g o n _ _ _ => match H.get id with
    | some (.cells g' cs) => if g' = g ∧ o + n * sz ≤ cs.length then some (n, rd cs o (n * sz)) else none
    | _ => none
  | _ => none

theorem run_loadCells_rd {w : World} {b o m : Nat} {rs : List Value} (hc : ∀ (j : Nat) (v : Value), rs[j]? = some v → w.cell? ⟨b, o + j, none⟩ = some v) (hm : m ≤ rs.length) :
    (loadCells ⟨b, o, none⟩ m).run P w = .ok (rs.take m).toArray w := by
  have := run_loadCells_list (P := P) w ⟨b, o, none⟩ (rs.take m) (fun j v hj => by
    rw [Addr.add_mk]; refine hc j v ?_
    rw [List.getElem?_take] at hj; split at hj <;> simp_all)
  rwa [show (rs.take m).length = m by simp; omega] at this

theorem xcells_len {sz : Nat} {x : V} {n : Nat} {xs : List V} (h : xcells H sz x = some (n, xs)) : xs.length = n * sz := by
  unfold xcells at h
  split at h
  · cases h; simp
  · split at h
    · cases h; simp; omega
    · cases h
  · split at h
    · split at h
      · cases h; simp [rd]; omega
      · cases h
    · cases h
  · cases h

theorem xcells_sim (h : HR X H) {sz n : Nat} {x : V} {rx : Value} {xs : List V} (hx : R X x rx) (hu : xcells H sz x = some (n, xs)) :
    ∃ a cap rxs, rx = .slice a n cap ∧ n ≤ cap ∧ (Builtin.firstCells sz n rx).run P X.w = .ok rxs.toArray X.w ∧ RL X xs rxs ∧ xs.all V.cell = true := by
  unfold xcells at hu
  split at hu
  · cases hu; cases hx
    exact ⟨none, 0, [], rfl, Nat.le_refl _, by simp [Builtin.firstCells], .nil, rfl⟩
  · rename_i ex m cs
    split at hu
    · rename_i hl
      cases hu
      cases hx with
      | fsl _ _ _ a rs cap hall hsp hfb hn hxx hc hR =>
        refine ⟨some a, cap, rs.take (n * sz), rfl, hn, ?_, hR.take _, all_take hall _⟩
        rw [Addr.eta hsp]
        exact run_loadCells_rd hc (by rw [← hR.length]; exact hl)
      | emp a cap =>
        refine ⟨some a, cap, [], rfl, Nat.zero_le _, ?_, by simpa using RL.nil, by simp⟩
        simp [Builtin.firstCells, loadCells, loadCellsFrom]
      | emp0 a =>
        refine ⟨some a, 0, [], rfl, Nat.zero_le _, ?_, by simpa using RL.nil, by simp⟩
        simp [Builtin.firstCells, loadCells, loadCellsFrom]
    · cases hu
  · rename_i id g o m sz' ex c
    split at hu
    · rename_i g' cs hget
      split at hu
      · rename_i hcd
        obtain ⟨rfl, hlen⟩ := hcd
        cases hu
        cases hx with
        | hsl _ _ _ _ _ _ _ a cap hsp hn hxx hc hl =>
        obtain ⟨b, c', e, fz, hL, ⟨hb1, hb2, _⟩, hblk, hf, hall, hsz, hR, hfz⟩ := h.block hl hget
        refine ⟨some a, cap, (c'.toList.drop o).take (n * sz), rfl, hn, ?_, RL.of_block hsz hR o _ hlen, rd_all hall _ _⟩
        rw [Addr.eta hsp, hb1, hb2]
        exact run_loadCells_rd (cells_of_block hblk o) (by simp; omega)
      · cases hu
    · cases hu
  · cases hu

/-! ### Zeros -/
theorem zeroCells_list (z : Array Value) : ∀ n, (Builtin.zeroCells z n).toList = (List.replicate n z.toList).flatten
  | 0 => by simp [Builtin.zeroCells]
  | n + 1 => by
    have ih := zeroCells_list z n
    simp only [Builtin.zeroCells, Array.toList_map, Array.toList_range] at ih ⊢
    rw [List.replicate_succ, List.flatten_cons, ← ih, Nat.add_mul, Nat.one_mul, Nat.add_comm (n * z.size), List.range_add, List.map_append]
    congr 1
    · apply List.ext_getElem?
      intro j
      by_cases hj : j < z.size
      · simp [hj, Nat.mod_eq_of_lt hj]
      · simp [hj]
    · rw [List.map_map]
      apply List.map_congr_left
      intro j _
      simp [Nat.add_mod_left]

theorem RL.rep {zs : List V} {rz : List Value} (h : RL X zs rz) : ∀ n, RL X (List.replicate n zs).flatten (List.replicate n rz).flatten
  | 0 => .nil
  | n + 1 => by simpa [List.replicate_succ] using h.append (RL.rep h n)

theorem all_rep {zs : List V} (h : zs.all V.cell = true) (n : Nat) : (List.replicate n zs).flatten.all V.cell = true := by
  induction n with
  | zero => simp
  | succ n ih => simp only [List.replicate_succ, List.flatten_cons, List.all_append, h, ih, Bool.and_self]

theorem zero_cells {e : TypeId} {z : V} {zs : List V} (hz : zvT P e = some z) (hv : vcells z = some zs) : ∃ rz : Value, (∀ w, (zeroValue e).run P w = .ok rz w) ∧ RL X zs rz.cells.toList ∧ zs.all V.cell = true := by
  obtain ⟨rz, h1, h2⟩ := zv_sim (X := X) hz
  obtain ⟨h3, h4⟩ := vcells_sim h2 hv
  exact ⟨rz, h1, h3, h4⟩

/-! ### The next state of a block: in its place, or in a new one -/
def Cx.turn (X : Cx) (id b g : Nat) : Cx := { X with L := fun k => if k = id then .live b g else X.L k }

theorem ext_turn {id b b' g g' : Nat} (hL : X.L id = .live b g) (hg : g < g') {base : Nat} (hb : base ≤ id) : Ext base X (X.turn id b' g') where
  links k := by
    simp only [Cx.turn]
    split
    · rename_i hk; subst hk; rw [hL]; exact .inr (.inl ⟨_, _, rfl, hg⟩)
    · exact .refl _
  low k hk := by simp only [Cx.turn]; rw [if_neg (by omega)]
  fb _ h := h
  frozen _ _ := rfl
  shapes _ _ h := h
  size := Nat.le_refl _
  os := rfl
  tape := rfl
  output := rfl

theorem hr_turn (h : HR X H) {id b b' g g' : Nat} (hL : X.L id = .live b g) (hg : g < g') {cs : List V} {ob : Obj} (hob : X.w.heap[b']? = some ob) (hf : ¬ X.FB b') (hfree : ∀ k g'', X.L k = .live b' g'' → k = id)
    (ho : ObjR X (.cells g' cs) g' ob) : HR (X.turn id b' g') (H.set id (.cells g' cs)) where
  fresh k hk := by
    simp only [Cx.turn]
    split
    · rename_i hk2; subst hk2; rw [h.fresh k hk] at hL; cases hL
    · exact h.fresh k hk
  live k bb gg hl := by
    simp only [Cx.turn] at hl
    split at hl
    · rename_i hk
      cases hl
      exact ⟨_, ob, by simp [Heap.set, hk], hob, hf, ho.mono (ext_turn hL hg (base := 0) (Nat.zero_le _))⟩
    · rename_i hk
      obtain ⟨o, ob', h1, h2, h3, h4⟩ := h.live k bb gg hl
      exact ⟨o, ob', by simp [Heap.set, hk, h1], h2, h3, h4.mono (ext_turn hL hg (base := 0) (Nat.zero_le _))⟩
  dead k hl := by
    simp only [Cx.turn] at hl
    split at hl
    · cases hl
    · rename_i hk; simp [Heap.set, hk, h.dead k hl]
  inj i j bb g1 g2 hi hj := by
    simp only [Cx.turn] at hi hj
    split at hi <;> split at hj
    · omega
    · rename_i e1 e2
      cases hi; exact absurd (hfree j _ hj) e2
    · rename_i e1 e2
      cases hj; exact absurd (hfree i _ hi) e1
    · exact h.inj i j bb g1 g2 hi hj
  fbs := h.fbs

theorem nextslicecap_le (need cap : Nat) (h : cap < need) : Builtin.nextslicecap need cap ≤ 3 * need + 4000 := by
  unfold Builtin.nextslicecap
  split
  · omega
  · split
    · omega
    · simp only [Builtin.growBy]
      split
      · omega
      · split
        · omega
        · split
          · omega
          · split
            · omega
            · omega

/-- append -/
def apV (P : Program) (base : Nat) (H : Heap) (t t1 : TypeId) (s x : V) : Option (V × Heap) :=
  match slcT P t, slcT P t1 with
  | some (e, sz, by_), some _ =>
    match xcells H sz x, (zvT P e).bind vcells with
    | some (k, xs), some zs =>
      if zs.length = sz then
        if k = 0 then match xcells H sz s with
          | some _ => some (s, H)
          | none => none
        else match s with
          | .nils => if (3 * k + 4000) * by_ ≤ 2 ^ 48 ∧ k ≤ 2 ^ 40 ∧ base ≤ H.n then some (.hsl H.n 0 0 k sz false k, H.new (.cells 0 xs)) else none
          | .fsl true n cs => if (3 * (n + k) + 4000) * by_ ≤ 2 ^ 48 ∧ n + k ≤ 2 ^ 40 ∧ n * sz ≤ cs.length ∧ base ≤ H.n then some (.hsl H.n 0 0 (n + k) sz false (n + k), H.new (.cells 0 (cs.take (n * sz) ++ xs))) else none
          | .hsl id g o n sz' ex c => match H.get id with
            | some (.cells g' cs) => if g' = g ∧ sz' = sz ∧ o + n * sz ≤ cs.length ∧ base ≤ id ∧ base ≤ H.n ∧ (3 * (n + k) + 4000) * by_ ≤ 2 ^ 48 ∧ n + k ≤ 2 ^ 40 then
                if n + k ≤ c then some (.hsl id g o (n + k) sz ex c, H.set id (.cells g (wr cs (o + n * sz) xs)))
                else if ex then some (.hsl H.n 0 0 (n + k) sz false (n + k), H.new (.cells 0 (rd cs o (n * sz) ++ xs)))
                else if o = 0 ∧ n * sz = cs.length then some (.hsl id (g + 1) 0 (n + k) sz false (n + k), H.set id (.cells (g + 1) (cs ++ xs)))
                else none
              else none
            | _ => none
          | _ => none
      else none
    | _, _ => none
  | _, _ => none

/-- The real append where there is no room: what it makes. -/
theorem run_append_grow {w : World} {t t1 e e1 : TypeId} {sz by_ n k cap : Nat} {a : Option Addr} {rx : Value} {rold rxs : List Value} {rz : Value} {ty : TypeId}
    (hu : P.underlying t = some (.slice e)) (hu1 : P.underlying t1 = some (.slice e1)) {i : TypeInfo} (hi : P.info? e = some i) (hsz : i.size = sz) (hby : i.bytes = by_)
    (hlen : ∃ ax cx, rx = .slice ax k cx) (hgrow : cap < n + k) (hbound : (3 * (n + k) + 4000) * by_ ≤ 2 ^ 48) (hsmall : n + k ≤ 2 ^ 40)
    (hold : (Builtin.firstCells sz n (.slice a n cap)).run P { w with drawn := w.drawn + 1 } = .ok rold.toArray { w with drawn := w.drawn + 1 })
    (hnew : (Builtin.firstCells sz k rx).run P { w with drawn := w.drawn + 1 } = .ok rxs.toArray { w with drawn := w.drawn + 1 })
    (hz : ∀ w, (zeroValue e).run P w = .ok rz w) :
    ∃ ncap, n + k ≤ ncap ∧ (Builtin.append_ #[t, t1] ty #[.slice a n cap, rx]).run P w =
      .ok (.slice (some ⟨w.heap.size, 0, none⟩) (n + k) ncap) { w with drawn := w.drawn + 1, heap := w.heap.push (.cells (rold.toArray ++ rxs.toArray ++ Builtin.zeroCells rz.cells (ncap - (n + k))) e) } := by
  obtain ⟨ax, cx, rfl⟩ := hlen
  refine ⟨(Question.appendCap (n + k) cap e).cut (w.tape w.drawn (.appendCap (n + k) cap e)), by simp [Question.cut], ?_⟩
  have hne : ¬ n + k ≤ cap := by omega
  have h1 : ¬ (((n + k : Nat) : Int) > IntKind.i64.max) := by
    have : IntKind.i64.max = 9223372036854775807 := by rfl
    rw [this]; omega
  have h2 : ¬ (Builtin.nextslicecap (n + k) cap * by_ > 2 ^ 48) := by
    have := nextslicecap_le (n + k) cap hgrow
    have := Nat.mul_le_mul_right by_ this
    omega
  simp only [Builtin.append_, run_underlying hu, run_underlying hu1, Sem.run_bind, Result.andThen_ok, run_sizeOf (szT_of_info hi), hsz, Sem.run_pure, Bool.false_eq_true, if_false, Builtin.lenOf, hne, h1, false_and, run_typeInfo hi, hby, h2, List.getElem?_toArray, List.getElem?_cons_zero, List.getElem?_cons_succ]
  simp only [run_choose, Question.forced, Bool.false_eq_true, if_false, Result.andThen_ok, run_askRoom, hold, Bool.not_false, if_true, hnew, hz, newRow, Sem.run_bind, run_newObj, Sem.run_pure]

end
end Go.Ns

