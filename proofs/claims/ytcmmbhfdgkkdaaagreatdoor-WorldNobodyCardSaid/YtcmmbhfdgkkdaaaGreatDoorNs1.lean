/- A logic of the model's calls, part 1. -/
import Derived.Test.YtcmmbhfdgkkdaaaGreatDoorNs0
import Derived.WideKeyRuns
import Derived.Defers
import Derived.Laws.Externs
import Derived.KernelRfl
/- Ns, part K: append, held against the model's. -/
namespace Go.Ns
section
variable {P : Program} {X : Cx} {H : Heap}

/-- A new block that nothing leads to. -/
def Cx.junk (X : Cx) (o : Obj) : Cx := { X with w := { X.w with heap := X.w.heap.push o } }

theorem ext_junk (h : HR X H) (o : Obj) (base : Nat) : Ext base X (X.junk o) where
  links id := .refl _
  low id hi := rfl
  fb b hb := hb
  frozen b hb := heap_push_lt (h.fbs b hb)
  shapes b s hs := shape_push hs
  size := by simp [Cx.junk]
  os := rfl
  tape := rfl
  output := rfl

theorem hr_junk (h : HR X H) (ob : Obj) : HR (X.junk ob) H where
  fresh id hi := h.fresh id hi
  live id b g hl := by
    obtain ⟨o', ob', h1, h2, h3, h4⟩ := h.live id b g hl
    have hlt : b < X.w.heap.size := (Array.getElem?_eq_some_iff.1 h2).1
    exact ⟨o', ob', h1, by simp only [Cx.junk]; rw [heap_push_lt hlt]; exact h2, h3, h4.mono (ext_junk h ob 0)⟩
  dead id hl := h.dead id hl
  inj := h.inj
  fbs b hb := by have := h.fbs b hb; simp [Cx.junk]; omega

theorem shape_new (w : World) (c : Array Value) (e : TypeId) : ({ w with heap := w.heap.push (.cells c e) } : World).shape? w.heap.size = some (e, c.size) := by
  simp [World.shape?]

/-- Append where there is no room: the new block, and what the slice reads. -/
theorem grow_core (h : HR X H) {t t1 e e1 : TypeId} {sz by_ n k cap : Nat} {a : Option Addr} {s x : V} {rx : Value} {olds xs zs : List V} {z : V} {ty : TypeId} {i : TypeInfo}
    (hu : P.underlying t = some (.slice e)) (hu1 : P.underlying t1 = some (.slice e1)) (hi : P.info? e = some i) (hsz : i.size = sz) (hby : i.bytes = by_)
    (hz : zvT P e = some z) (hzv : vcells z = some zs) (hzl : zs.length = sz)
    (hs : R X s (.slice a n cap)) (hso : xcells H sz s = some (n, olds)) (hx : R X x rx) (hxo : xcells H sz x = some (k, xs)) (hgrow : cap < n + k)
    (hbound : (3 * (n + k) + 4000) * by_ ≤ 2 ^ 48) (hsmall : n + k ≤ 2 ^ 40) :
    ∃ ncap c, n + k ≤ ncap ∧ c.size = ncap * sz ∧ (Builtin.append_ #[t, t1] ty #[.slice a n cap, rx]).run P X.w =
        .ok (.slice (some ⟨X.w.heap.size, 0, none⟩) (n + k) ncap) { X.drew.w with heap := X.w.heap.push (.cells c e) } ∧
      (olds ++ xs).all V.cell = true ∧ (olds ++ xs).length ≤ c.size ∧ ∀ (j : Nat) (v : V) (rv : Value), (olds ++ xs)[j]? = some v → c[j]? = some rv → R X.drew v rv := by
  have hd := hr_drew h
  obtain ⟨a1, c1, ro, e1, e2, e3, e4, e5⟩ := xcells_sim (P := P) hd (R.mono (ext_drew X 0) hs) hso
  obtain ⟨a2, c2, rn, f1, f2, f3, f4, f5⟩ := xcells_sim (P := P) hd (R.mono (ext_drew X 0) hx) hxo
  obtain ⟨rz, g1, g2, g3⟩ := zero_cells (P := P) (X := X) hz hzv
  obtain ⟨ncap, k1, k2⟩ := run_append_grow (P := P) (w := X.w) (t := t) (t1 := t1) (n := n) (k := k) (cap := cap) (a := a) (rx := rx) (rold := ro) (rxs := rn) (rz := rz) (ty := ty) hu hu1 hi hsz hby ⟨a2, c2, f1⟩ hgrow hbound hsmall e3 f3 g1
  have l1 := xcells_len hso
  have l2 := xcells_len hxo
  have l3 := e4.length
  have l4 := f4.length
  have l5 : rz.cells.size = sz := by rw [← hzl, g2.length]; simp
  refine ⟨ncap, ro.toArray ++ rn.toArray ++ Builtin.zeroCells rz.cells (ncap - (n + k)), k1, ?_, k2, by rw [List.all_append, e5, f5]; rfl, ?_, ?_⟩
  · have : (Builtin.zeroCells rz.cells (ncap - (n + k))).size = (ncap - (n + k)) * sz := by simp [Builtin.zeroCells, l5]
    simp only [Array.size_append, List.size_toArray, this]
    rw [← l3, ← l4, l1, l2, ← Nat.add_mul, ← Nat.add_mul]
    congr 1; omega
  · simp only [Array.size_append, List.size_toArray, List.length_append]; omega
  · intro j v rv h1 h2
    obtain ⟨rv', q1, q2⟩ := (e4.append f4).get j h1
    have hlt : j < (ro ++ rn).length := (List.getElem?_eq_some_iff.1 q1).1
    have : (ro.toArray ++ rn.toArray ++ Builtin.zeroCells rz.cells (ncap - (n + k)))[j]? = (ro ++ rn)[j]? := by
      rw [Array.getElem?_append, if_pos (by simpa using hlt)]
      simp
    rw [this, q1] at h2
    cases h2
    exact q2

theorem grow_sim (h : HR X H) {base : Nat} (hbase : base ≤ H.n) {t t1 e e1 : TypeId} {sz by_ n k cap : Nat} {a : Option Addr} {s x : V} {rx : Value} {olds xs zs : List V} {z : V} {ty : TypeId} {i : TypeInfo}
    (hu : P.underlying t = some (.slice e)) (hu1 : P.underlying t1 = some (.slice e1)) (hi : P.info? e = some i) (hsz : i.size = sz) (hby : i.bytes = by_)
    (hz : zvT P e = some z) (hzv : vcells z = some zs) (hzl : zs.length = sz)
    (hs : R X s (.slice a n cap)) (hso : xcells H sz s = some (n, olds)) (hx : R X x rx) (hxo : xcells H sz x = some (k, xs)) (hgrow : cap < n + k)
    (hbound : (3 * (n + k) + 4000) * by_ ≤ 2 ^ 48) (hsmall : n + k ≤ 2 ^ 40) :
    ∃ ru w', (Builtin.append_ #[t, t1] ty #[.slice a n cap, rx]).run P X.w = .ok ru w' ∧ Eff base X H (H.new (.cells 0 (olds ++ xs))) (.hsl H.n 0 0 (n + k) sz false (n + k)) ru w' := by
  obtain ⟨ncap, c, k1, k2, k3, k4, k5, k6⟩ := grow_core (P := P) h (ty := ty) hu hu1 hi hsz hby hz hzv hzl hs hso hx hxo hgrow hbound hsmall
  refine ⟨_, _, k3, X.drew.push H.n (.cells c e), rfl, hr_push (hr_drew h) ⟨rfl, k4, k5, k6, fun o _ => by omega⟩, (ext_drew X base).trans (ext_push (hr_drew h) _ hbase), low_new hbase _, ?_⟩
  refine .hsl _ _ _ _ _ _ _ _ _ rfl k1 (by simp) k1 ?_
  have hL : (X.drew.push H.n (.cells c e)).L H.n = .live X.w.heap.size 0 := by simp [Cx.push, Cx.drew]
  rw [hL]
  exact ⟨Nat.le_refl _, fun _ => ⟨rfl, rfl, e, c.size, shape_new X.drew.w c e, by omega⟩⟩

theorem run_append_none {w : World} {t t1 e e1 : TypeId} {sz n cap : Nat} {a : Option Addr} {rx : Value} {ty : TypeId} {i : TypeInfo}
    (hu : P.underlying t = some (.slice e)) (hu1 : P.underlying t1 = some (.slice e1)) (hi : P.info? e = some i) (hsz : i.size = sz) (hn : n ≤ cap)
    (hlen : ∃ ax cx, rx = .slice ax 0 cx) (hnew : (Builtin.firstCells sz 0 rx).run P w = .ok #[] w) :
    (Builtin.append_ #[t, t1] ty #[.slice a n cap, rx]).run P w = .ok (.slice a n cap) w := by
  obtain ⟨ax, cx, rfl⟩ := hlen
  simp only [Builtin.append_, run_underlying hu, run_underlying hu1, Sem.run_bind, Result.andThen_ok, run_sizeOf (szT_of_info hi), hsz, Sem.run_pure, Bool.false_eq_true, if_false, Builtin.lenOf, Nat.add_zero, hn, if_true, hnew, List.getElem?_toArray, List.getElem?_cons_zero, List.getElem?_cons_succ, Bool.not_false]
  cases a <;> simp [storeCells]

theorem run_append_room {w : World} {t t1 e e1 : TypeId} {sz n k cap : Nat} {b o : Nat} {rx : Value} {rxs : List Value} {ty : TypeId} {i : TypeInfo} {w' : World}
    (hu : P.underlying t = some (.slice e)) (hu1 : P.underlying t1 = some (.slice e1)) (hi : P.info? e = some i) (hsz : i.size = sz) (hn : n + k ≤ cap)
    (hlen : ∃ ax cx, rx = .slice ax k cx) (hnew : (Builtin.firstCells sz k rx).run P w = .ok rxs.toArray w) (hst : (storeCells ⟨b, o + n * sz, none⟩ rxs).run P w = .ok () w') :
    (Builtin.append_ #[t, t1] ty #[.slice (some ⟨b, o, none⟩) n cap, rx]).run P w = .ok (.slice (some ⟨b, o, none⟩) (n + k) cap) w' := by
  obtain ⟨ax, cx, rfl⟩ := hlen
  simp only [Builtin.append_, run_underlying hu, run_underlying hu1, Sem.run_bind, Result.andThen_ok, run_sizeOf (szT_of_info hi), hsz, Sem.run_pure, Bool.false_eq_true, if_false, Builtin.lenOf, hn, if_true, hnew, List.getElem?_toArray, List.getElem?_cons_zero, List.getElem?_cons_succ, Bool.not_false, Addr.add_mk, hst]

theorem ap_sim (h : HR X H) {base : Nat} {t t1 ty : TypeId} {s x u : V} {rs rx : Value} {H' : Heap} (hs : R X s rs) (hx : R X x rx) (hu : apV P base H t t1 s x = some (u, H')) :
    ∃ ru w', (Builtin.append_ #[t, t1] ty #[rs, rx]).run P X.w = .ok ru w' ∧ Eff base X H H' u ru w' := by
  unfold apV at hu
  split at hu
  · rename_i e sz by_ x1 ht ht1
    obtain ⟨e1, s1, b1⟩ := x1
    obtain ⟨i, hu0, hi, hsz, hby⟩ := slcT_spec ht
    obtain ⟨i1, hu1, _⟩ := slcT_spec ht1
    split at hu
    · rename_i k xs zs hxo hz
      simp only [Option.bind_eq_some_iff] at hz
      obtain ⟨z, hz, hzv⟩ := hz
      split at hu
      · rename_i hzl
        obtain ⟨ax, cx, rxs, f1, f2, f3, f4, f5⟩ := xcells_sim (P := P) h hx hxo
        split at hu
        · rename_i hk
          subst hk
          split at hu
          · rename_i y hso
            cases hu
            obtain ⟨n, olds⟩ := y
            obtain ⟨a, c, ro, e1', e2, e3, e4, e5⟩ := xcells_sim (P := P) h hs hso
            subst e1'
            have l0 := xcells_len hxo
            have l1 := f4.length
            have : rxs = [] := List.eq_nil_of_length_eq_zero (by rw [← l1, l0]; simp)
            subst this
            exact ⟨_, _, run_append_none (P := P) hu0 hu1 hi hsz e2 ⟨ax, cx, f1⟩ f3, X, rfl, h, Ext.refl _ _, Low.refl _ _, hs⟩
          · cases hu
        · rename_i hk
          split at hu
          · split at hu
            · rename_i hc
              cases hu
              cases hs
              have g := grow_sim (P := P) h (base := base) hc.2.2 (n := 0) (a := none) (cap := 0) (s := .nils) (olds := []) (ty := ty) hu0 hu1 hi hsz hby hz hzv hzl .nils rfl hx hxo (by omega) (by simpa using hc.1) (by simpa using hc.2.1)
              simpa using g
            · cases hu
          · rename_i n cs
            split at hu
            · rename_i hc
              obtain ⟨c1, c2, c3, c4⟩ := hc
              cases hu
              have hso : xcells H sz (.fsl true n cs) = some (n, cs.take (n * sz)) := by simp [xcells, c3]
              cases hs with
              | fsl _ _ _ a rs cap hall hsp hfb hn hxx hcc hR =>
                exact grow_sim (P := P) h c4 (ty := ty) hu0 hu1 hi hsz hby hz hzv hzl (.fsl _ _ _ a rs cap hall hsp hfb hn hxx hcc hR) hso hx hxo (by have := hxx rfl; omega) c1 c2
              | emp0 a =>
                exact grow_sim (P := P) h c4 (ty := ty) hu0 hu1 hi hsz hby hz hzv hzl (.emp0 a) hso hx hxo (by omega) c1 c2
            · cases hu
          · rename_i id g o n sz' ex c
            split at hu
            · rename_i g' cs hget
              split at hu
              · rename_i hc
                obtain ⟨rfl, rfl, c1, c2, c3, c4, c5⟩ := hc
                have hso : xcells H sz' (.hsl id g' o n sz' ex c) = some (n, rd cs o (n * sz')) := by simp [xcells, hget, c1]
                have hs' := hs
                cases hs with
                | hsl _ _ _ _ _ _ _ a cap hsp hn hxx hcc hl =>
                split at hu
                · rename_i hroom
                  cases hu
                  obtain ⟨b, cc, et, fz, hL, ⟨hb1, hb2, et', m, hb3, hb4⟩, hblk, hf, hall, hsz', hR, hfz⟩ := h.block hl hget
                  have hm : m = cc.size := by rw [shape_of_block hblk] at hb3; cases hb3; rfl
                  have l0 := xcells_len hxo
                  have q : (n + k) * sz' ≤ cap * sz' := Nat.mul_le_mul_right _ (by omega)
                  rw [Nat.add_mul] at q
                  obtain ⟨w1, w2, w3⟩ := write_sim (P := P) (base := base) h hL hblk hall hsz' hR hfz f4 f5 (o := o + n * sz') c1 (by rw [l0]; omega)
                  rw [Addr.eta hsp, hb1, hb2]
                  refine ⟨_, _, run_append_room (P := P) hu0 hu1 hi hsz (by omega) ⟨ax, cx, f1⟩ f3 w1, _, rfl, w2, w3, low_set c2 _, ?_⟩
                  refine .hsl _ _ _ _ _ _ _ _ _ rfl (by omega) hxx hcc ?_
                  have : (X.row b (cc.toList.take (o + n * sz') ++ rxs ++ cc.toList.drop (o + n * sz' + rxs.length)).toArray).L id = .live b g' := hL
                  rw [this]
                  exact ⟨Nat.le_refl _, fun _ => ⟨rfl, rfl, et', m, w3.shapes b _ hb3, hb4⟩⟩
                · rename_i hroom
                  split at hu
                  · rename_i hex
                    cases hu
                    exact grow_sim (P := P) h c3 (ty := ty) hu0 hu1 hi hsz hby hz hzv hzl hs' hso hx hxo (by have := hxx hex; omega) c4 c5
                  · rename_i hex
                    split at hu
                    · rename_i htip
                      obtain ⟨rfl, htip⟩ := htip
                      cases hu
                      obtain ⟨b, cc, et, fz, hL, ⟨hb1, hb2, et', m, hb3, hb4⟩, hblk, hf, hall, hsz', hR, hfz⟩ := h.block hl hget
                      have hm : m = cc.size := by rw [shape_of_block hblk] at hb3; cases hb3; rfl
                      have l0 := xcells_len hxo
                      have hrd : rd cs 0 (n * sz') = cs := by simp [rd, htip]
                      by_cases hcap : n + k ≤ cap
                      · have q : (n + k) * sz' ≤ cap * sz' := Nat.mul_le_mul_right _ hcap
                        rw [Nat.add_mul] at q
                        obtain ⟨w1, w2, w3⟩ := write_sim (P := P) (base := base) h hL hblk hall hsz' hR hfz f4 f5 (o := 0 + n * sz') c1 (by rw [l0]; omega)
                        have hwr : wr cs (0 + n * sz') xs = cs ++ xs := by
                          simp only [wr, Nat.zero_add, htip]
                          rw [List.take_length, List.drop_eq_nil_of_le (by omega)]; simp
                        rw [hwr] at w2
                        generalize hc' : (cc.toList.take (0 + n * sz') ++ rxs ++ cc.toList.drop (0 + n * sz' + rxs.length)).toArray = c' at w1 w2 w3
                        have hLr : (X.row b c').L id = .live b g' := hL
                        obtain ⟨o1, ob1, r1, r2, r3, r4⟩ := w2.live id b g' hLr
                        simp only [Heap.set, if_true, Option.some.injEq] at r1
                        subst r1
                        have hob : ∃ c2' e2' f2', ob1 = .cells c2' e2' f2' := by cases ob1 <;> simp [ObjR] at r4; exact ⟨_, _, _, rfl⟩
                        obtain ⟨c2', e2', f2', rfl⟩ := hob
                        have turned := hr_turn w2 (id := id) (b := b) (b' := b) (g := g') (g' := g' + 1) hLr (by omega) (cs := cs ++ xs) r2 r3 (fun j g'' hj => w2.inj j id b g'' g' hj hLr) ⟨rfl, r4.2⟩
                        have hset : (H.set id (.cells g' (cs ++ xs))).set id (.cells (g' + 1) (cs ++ xs)) = H.set id (.cells (g' + 1) (cs ++ xs)) := by
                          simp only [Heap.set]; congr 1; funext j; split <;> rfl
                        rw [hset] at turned
                        rw [Addr.eta hsp, hb1, hb2]
                        refine ⟨_, _, run_append_room (P := P) hu0 hu1 hi hsz hcap ⟨ax, cx, f1⟩ f3 w1, _, rfl, turned, w3.trans (ext_turn hLr (by omega) c2), low_set c2 _, ?_⟩
                        refine .hsl _ _ _ _ _ _ _ _ _ rfl hcap (by simp) hcap ?_
                        have : ((X.row b c').turn id b (g' + 1)).L id = .live b (g' + 1) := by simp [Cx.turn]
                        rw [this]
                        exact ⟨Nat.le_refl _, fun _ => ⟨rfl, rfl, et', m, w3.shapes b _ hb3, hb4⟩⟩
                      · obtain ⟨ncap, c', k1, k2, k3, k4, k5, k6⟩ := grow_core (P := P) h (ty := ty) hu0 hu1 hi hsz hby hz hzv hzl hs' hso hx hxo (by omega) c4 c5
                        rw [hrd] at k4 k5 k6
                        have hd := hr_drew h
                        have hj := hr_junk hd (.cells c' e)
                        have ej := ext_junk hd (.cells c' e) base
                        have hLj : (X.drew.junk (.cells c' e)).L id = .live b g' := hL
                        have turned := hr_turn hj (id := id) (b := b) (b' := X.w.heap.size) (g := g') (g' := g' + 1) hLj (by omega) (cs := cs ++ xs) (ob := .cells c' e) (by show (X.w.heap.push (.cells c' e))[X.w.heap.size]? = _; simp)
                          (fun hf => by have := hd.fbs _ hf; simp [Cx.drew] at this)
                          (fun j g'' hjl => by
                            obtain ⟨_, _, _, r2, _⟩ := hd.live j X.w.heap.size g'' hjl
                            have := (Array.getElem?_eq_some_iff.1 r2).1
                            simp [Cx.drew] at this)
                          ⟨rfl, k4, k5, fun j v rv h1 h2 => R.mono ej (k6 j v rv h1 h2), fun o _ => by omega⟩
                        refine ⟨_, _, k3, _, rfl, turned, ((ext_drew X base).trans ej).trans (ext_turn hLj (by omega) c2), low_set c2 _, ?_⟩
                        refine .hsl _ _ _ _ _ _ _ _ _ rfl k1 (by simp) k1 ?_
                        have : ((X.drew.junk (.cells c' e)).turn id X.w.heap.size (g' + 1)).L id = .live X.w.heap.size (g' + 1) := by simp [Cx.turn]
                        rw [this]
                        exact ⟨Nat.le_refl _, fun _ => ⟨rfl, rfl, e, c'.size, shape_new X.drew.w c' e, by omega⟩⟩
                    · cases hu
              · cases hu
            · cases hu
          · cases hu
      · cases hu
    · cases hu
  · cases hu

end
end Go.Ns

/- Ns, part L: literals of slices, made slices, clearing; lengths; the least and the greatest; bytes and strings; keys of maps. -/
namespace Go.Ns
section
variable {P : Program} {X : Cx} {H : Heap}

/-! ### A literal of a slice: it is frozen -/
def bsV (P : Program) (t : TypeId) (len : Nat) (parts : List (Nat × V)) : Option V :=
  match slcT P t with
  | some (e, sz, _) => match (zvT P e).bind vcells with
    | some zs => if zs.length = sz ∧ len * sz ≤ 2 ^ 24 then (fillV ((List.range len).map fun k => (k * sz, sz)) (List.replicate len zs).flatten parts).map (.fsl true len) else none
    | none => none
  | none => none

theorem bs_sim (h : HR X H) {base : Nat} {t : TypeId} {len : Nat} {parts : List (Nat × V)} {rparts : List (Nat × Value)} {u : V} (hp : PL X parts rparts) (hu : bsV P t len parts = some u) :
    ∃ ru w', (Instr.buildSlice t len rparts.toArray).run P X.w = .ok ru w' ∧ Eff base X H H u ru w' := by
  unfold bsV at hu
  split at hu
  · rename_i e sz by_ ht
    obtain ⟨i, hu0, hi, hsz, _⟩ := slcT_spec ht
    split at hu
    · rename_i zs hz
      simp only [Option.bind_eq_some_iff] at hz
      obtain ⟨z, hz, hzv⟩ := hz
      split at hu
      · rename_i hc
        obtain ⟨hzl, hb⟩ := hc
        simp only [Option.map_eq_some_iff] at hu
        obtain ⟨cs, hcs, rfl⟩ := hu
        obtain ⟨rz, g1, g2, g3⟩ := zero_cells (P := P) (X := X) hz hzv
        have l5 : rz.cells.size = sz := by rw [← hzl, g2.length]; simp
        have hinit : ∀ (zero : Array Value), (len * sz = 0 → zero = #[]) → (len * sz ≠ 0 → zero = rz.cells) → ((Array.range (len * sz)).map fun i => zero[i % zero.size]!).toList = (List.replicate len rz.cells.toList).flatten := by
          intro zero h0 h1
          by_cases hq : len * sz = 0
          · rw [hq]
            rcases Nat.mul_eq_zero.1 hq with q | q
            · simp [q]
            · have : rz.cells.toList = [] := List.eq_nil_of_length_eq_zero (by simp [l5, q])
              rw [this]; simp
          · rw [h1 hq]
            have := zeroCells_list rz.cells len
            rw [Builtin.zeroCells, l5] at this
            rw [l5]; exact this
        have main : ∀ (zero : Array Value), (len * sz = 0 → zero = #[]) → (len * sz ≠ 0 → zero = rz.cells) →
            ∃ rcs', Instr.fill (fun i => some (i * sz, sz)) ((Array.range (len * sz)).map fun i => zero[i % zero.size]!) rparts = some rcs' ∧ RL X cs rcs'.toList ∧ cs.all V.cell = true := by
          intro zero h0 h1
          refine fill_sim (X := X) (place := fun i => some (i * sz, sz)) (ps := (List.range len).map fun k => (k * sz, sz)) (fun i x h => by
              rw [List.getElem?_map] at h
              simp only [Option.map_eq_some_iff] at h
              obtain ⟨k, hk, rfl⟩ := h
              have hlt := (List.getElem?_eq_some_iff.1 hk).1
              simp at hlt
              rw [List.getElem?_range hlt] at hk
              cases hk; rfl) hp ?_ (all_rep g3 len) hcs
          rw [hinit zero h0 h1]; exact g2.rep len
        by_cases hq : len * sz = 0
        · obtain ⟨rcs', e1, e2, e3⟩ := main #[] (fun _ => rfl) (fun h => absurd hq h)
          refine ⟨.slice (some ⟨X.w.heap.size, 0, none⟩) len len, _, ?_, X.ice (.cells rcs' e), rfl, hr_ice h _, ext_ice h _, Low.refl _ _, ?_⟩
          · simp only [Instr.buildSlice, Sem.run_bind, run_underlying hu0, Result.andThen_ok, run_sizeOf (szT_of_info hi), hsz]
            rw [if_neg (by omega)]
            simp only [hq, if_true, Sem.run_pure, Result.andThen_ok, Sem.run_bind]
            rw [hq] at e1
            rw [e1]
            simp [newRow, Cx.ice]
          · refine .fsl _ _ _ ⟨X.w.heap.size, 0, none⟩ rcs'.toList _ e3 rfl (.inr rfl) (Nat.le_refl _) (fun _ => rfl) (fun j v hj => ?_) (RL.mono (ext_ice h (.cells rcs' e) (base := 0)) e2)
            simp only [Cx.ice, World.cell?, Nat.zero_add, Array.getElem?_push_size]
            simpa using hj
        · obtain ⟨rcs', e1, e2, e3⟩ := main rz.cells (fun h => absurd h hq) (fun _ => rfl)
          refine ⟨.slice (some ⟨X.w.heap.size, 0, none⟩) len len, _, ?_, X.ice (.cells rcs' e), rfl, hr_ice h _, ext_ice h _, Low.refl _ _, ?_⟩
          · simp only [Instr.buildSlice, Sem.run_bind, run_underlying hu0, Result.andThen_ok, run_sizeOf (szT_of_info hi), hsz]
            rw [if_neg (by omega)]
            simp only [hq, if_false, Sem.run_pure, Result.andThen_ok, Sem.run_bind, g1]
            rw [e1]
            simp [newRow, Cx.ice]
          · refine .fsl _ _ _ ⟨X.w.heap.size, 0, none⟩ rcs'.toList _ e3 rfl (.inr rfl) (Nat.le_refl _) (fun _ => rfl) (fun j v hj => ?_) (RL.mono (ext_ice h (.cells rcs' e) (base := 0)) e2)
            simp only [Cx.ice, World.cell?, Nat.zero_add, Array.getElem?_push_size]
            simpa using hj
      · cases hu
    · cases hu
  · cases hu

/-! ### make of a slice -/
def mkV (P : Program) (base : Nat) (H : Heap) (t : TypeId) (l c : V) : Option (V × Heap) :=
  match slcT P t, l, c with
  | some (e, sz, by_), .int _ l, .int _ c => match (zvT P e).bind vcells with
    | some zs => if zs.length = sz ∧ 0 < sz ∧ 0 ≤ l ∧ l ≤ c ∧ c ≤ 2 ^ 40 ∧ (by_ : Int) * c ≤ 2 ^ 48 ∧ base ≤ H.n then
        some (.hsl H.n 0 0 l.toNat sz true c.toNat, H.new (.cells 0 (List.replicate c.toNat zs).flatten)) else none
    | none => none
  | _, _, _ => none

theorem mk_sim (h : HR X H) {base : Nat} {t : TypeId} {l c u : V} {rl rc : Value} {H' : Heap} (hl : R X l rl) (hc : R X c rc) (hu : mkV P base H t l c = some (u, H')) :
    ∃ ru w', (Instr.makeSlice t rl rc).run P X.w = .ok ru w' ∧ Eff base X H H' u ru w' := by
  unfold mkV at hu
  split at hu
  · rename_i e sz by_ k1 l k2 c ht
    obtain ⟨i, hu0, hi, hsz, hby⟩ := slcT_spec ht
    split at hu
    · rename_i zs hz
      simp only [Option.bind_eq_some_iff] at hz
      obtain ⟨z, hz, hzv⟩ := hz
      split at hu
      · rename_i hcd
        obtain ⟨hzl, hs0, hl0, hlc, hc40, hc48, hb⟩ := hcd
        cases hu
        cases hl; cases hc
        obtain ⟨rz, g1, g2, g3⟩ := zero_cells (P := P) (X := X) hz hzv
        have l5 : rz.cells.size = sz := by rw [← hzl, g2.length]; simp
        have wl : IntKind.i64.wrap l = l := by simp [IntKind.wrap, IntKind.bits, IntKind.signed]; omega
        have wc : IntKind.i64.wrap c = c := by simp [IntKind.wrap, IntKind.bits, IntKind.signed]; omega
        have htl : (c < 0 || decide ((by_ : Int) * c > 2 ^ 48)) = false := by simp; omega
        have hcells : ((Array.range (c.toNat * sz)).map fun i => rz.cells[i % rz.cells.size]!) = (List.replicate c.toNat rz.cells.toList).flatten.toArray := by
          have := zeroCells_list rz.cells c.toNat
          rw [Builtin.zeroCells, l5] at this
          rw [l5]; apply Array.ext'; rw [this]
        have hr := g2.rep c.toNat
        refine ⟨.slice (some ⟨X.w.heap.size, 0, none⟩) l.toNat c.toNat, _, ?_, X.push H.n (.cells (List.replicate c.toNat rz.cells.toList).flatten.toArray e), rfl, hr_push h (objR_cells hr (all_rep g3 _)), ext_push h _ hb, low_new hb _, ?_⟩
        · simp only [Instr.makeSlice, Sem.run_bind, run_underlying hu0, Result.andThen_ok, asInt, asIntOf, Sem.run_pure, run_typeInfo hi, hby, wl, wc, htl]
          have h2 : ¬ ((l < 0 || l > c) = true) := by simp; omega
          simp only [Bool.false_or]
          rw [if_neg (by simpa using h2)]
          simp only [Sem.run_bind, run_askRoom, Result.andThen_ok, run_sizeOf (szT_of_info hi), hsz]
          by_cases hq : c.toNat * sz = 0
          · have hc0 : c.toNat = 0 := by
              rcases Nat.mul_eq_zero.1 hq with q | q
              · exact q
              · omega
            have hr0 : ∀ f : Nat → Value, (Array.range 0).map f = #[] := fun f => Array.ext' (by simp)
            simp [hc0, newRow, Cx.push, hr0]
          · simp only [hq, if_false, Sem.run_bind, g1, Result.andThen_ok, Sem.run_pure, hcells]
            simp [newRow, Cx.push]
        · refine .hsl _ _ _ _ _ _ _ _ _ rfl (by omega) (fun _ => rfl) (Nat.le_refl _) ?_
          have : (X.push H.n (.cells (List.replicate c.toNat rz.cells.toList).flatten.toArray e)).L H.n = .live X.w.heap.size 0 := by simp [Cx.push]
          rw [this]
          refine ⟨Nat.le_refl _, fun _ => ⟨rfl, rfl, e, _, shape_new X.w _ e, ?_⟩⟩
          simp [l5]
      · cases hu
    · cases hu
  · cases hu

/-! ### clear of a slice -/
def clV (P : Program) (base : Nat) (H : Heap) (t : TypeId) (x : V) : Option Heap :=
  match slcT P t with
  | some (e, sz, _) => match (zvT P e).bind vcells with
    | some zs => match x with
      | .nils => some H
      | .fsl _ 0 _ => some H
      | .hsl id g o n _ _ _ => if n = 0 then some H else match H.get id with
        | some (.cells g' cs) => if g' = g ∧ zs.length = sz ∧ o + n * sz ≤ cs.length ∧ base ≤ id then some (H.set id (.cells g (wr cs o (List.replicate n zs).flatten))) else none
        | _ => none
      | _ => none
    | none => none
  | none => none

theorem cl_sim (h : HR X H) {base : Nat} {t ty : TypeId} {x : V} {rx : Value} {H' : Heap} (hx : R X x rx) (hu : clV P base H t x = some H') :
    ∃ w', (Builtin.clear_ #[t] ty #[rx]).run P X.w = .ok (.tuple #[]) w' ∧ ∃ X', X'.w = w' ∧ HR X' H' ∧ Ext base X X' ∧ Low base H H' := by
  unfold clV at hu
  split at hu
  · rename_i e sz by_ ht
    obtain ⟨i, hu0, hi, hsz, hby⟩ := slcT_spec ht
    split at hu
    · rename_i zs hz
      simp only [Option.bind_eq_some_iff] at hz
      obtain ⟨z, hz, hzv⟩ := hz
      split at hu
      · cases hu; cases hx
        exact ⟨_, by simp [Builtin.clear_, run_underlying hu0], X, rfl, h, .refl _ _, .refl _ _⟩
      · cases hu
        obtain ⟨a, cap, rfl⟩ : ∃ a cap, rx = .slice a 0 cap := by cases hx <;> exact ⟨_, _, rfl⟩
        exact ⟨_, by cases a <;> simp [Builtin.clear_, run_underlying hu0], X, rfl, h, .refl _ _, .refl _ _⟩
      · rename_i id g o n sz' ex c
        split at hu
        · rename_i hn
          cases hu
          subst hn
          cases hx with
          | hsl _ _ _ _ _ _ _ a cap hsp hn hxx hcc hl =>
          exact ⟨_, by simp [Builtin.clear_, run_underlying hu0], X, rfl, h, .refl _ _, .refl _ _⟩
        · rename_i hn
          split at hu
          · rename_i g' cs hget
            split at hu
            · rename_i hcd
              obtain ⟨rfl, hzl, hlen, hb⟩ := hcd
              cases hu
              cases hx with
              | hsl _ _ _ _ _ _ _ a cap hsp hn' hxx hcc hl =>
              obtain ⟨b, cc, et, fz, hL, ⟨hb1, hb2, _⟩, hblk, hf, hall, hsz', hR, hfz⟩ := h.block hl hget
              obtain ⟨rz, g1, g2, g3⟩ := zero_cells (P := P) (X := X) hz hzv
              have l5 : rz.cells.size = sz := by rw [← hzl, g2.length]; simp
              obtain ⟨w1, w2, w3⟩ := write_sim (P := P) (base := base) h hL hblk hall hsz' hR hfz (g2.rep n) (all_rep g3 n) (o := o) (by omega) (by simp [hzl]; omega)
              refine ⟨_, ?_, _, rfl, w2, w3, low_set hb _⟩
              rw [Addr.eta hsp, hb1, hb2]
              have hzc : (Builtin.zeroCells rz.cells n).toList = (List.replicate n rz.cells.toList).flatten := zeroCells_list _ _
              have : ∀ m, n = m + 1 → (Builtin.clear_ #[t] ty #[.slice (some ⟨b, o, none⟩) n cap]).run P X.w = .ok (.tuple #[]) (X.row b (cc.toList.take o ++ (List.replicate n rz.cells.toList).flatten ++ cc.toList.drop (o + (List.replicate n rz.cells.toList).flatten.length)).toArray).w := by
                intro m hm
                subst hm
                simp only [Builtin.clear_, run_underlying hu0, Sem.run_bind, Result.andThen_ok, g1, List.getElem?_toArray, List.getElem?_cons_zero, hzc, w1, Sem.run_pure]
                rfl
              exact this (n - 1) (by omega)
            · cases hu
          · cases hu
      · cases hu
    · cases hu
  · cases hu

/-! ### Lengths, and the least and the greatest -/
def mapT (P : Program) (t : TypeId) : Option (TypeId × TypeId) := match P.underlying t with | some (.map k e) => some (k, e) | _ => none
theorem mapT_spec {t k e : TypeId} (h : mapT P t = some (k, e)) : P.underlying t = some (.map k e) := by unfold mapT at h; split at h <;> simp_all

def lnV (P : Program) (H : Heap) (t : TypeId) (x : V) : Option V :=
  match x with
  | .str s => if strT P t then some (.int .i64 s.size) else none
  | .nils => (slcT P t).map fun _ => .int .i64 0
  | .fsl _ n _ => (slcT P t).map fun _ => .int .i64 n
  | .hsl _ _ _ n _ _ _ => (slcT P t).map fun _ => .int .i64 n
  | .nilm => (mapT P t).map fun _ => .int .i64 0
  | .map id => match H.get id with
    | some (.map es _) => (mapT P t).map fun _ => .int .i64 es.length
    | _ => none
  | _ => none

theorem ln_sim (h : HR X H) {t ty : TypeId} {x u : V} {rx : Value} (hx : R X x rx) (hu : lnV P H t x = some u) : ∃ ru, (Builtin.len_ #[t] ty #[rx]).run P X.w = .ok ru X.w ∧ R X u ru := by
  have sl : ∀ {a n c}, (slcT P t).isSome = true → (Builtin.len_ #[t] ty #[.slice a n c]).run P X.w = .ok (.int .i64 n) X.w := by
    intro a n c hs
    obtain ⟨⟨e, s, b⟩, hs⟩ := Option.isSome_iff_exists.1 hs
    obtain ⟨i, hu0, _⟩ := slcT_spec hs
    simp [Builtin.len_, run_underlying hu0, goInt]
  unfold lnV at hu
  split at hu
  · cases hx
    split at hu
    · rename_i hs
      cases hu
      unfold strT at hs
      split at hs
      · rename_i h1; exact ⟨_, by simp [Builtin.len_, run_underlying h1, goInt], .int _ _⟩
      · cases hs
    · cases hu
  · cases hx
    simp only [Option.map_eq_some_iff] at hu
    obtain ⟨y, hy, rfl⟩ := hu
    exact ⟨_, sl (by simp [hy]), .int _ _⟩
  · simp only [Option.map_eq_some_iff] at hu
    obtain ⟨y, hy, rfl⟩ := hu
    cases hx <;> exact ⟨_, sl (by simp [hy]), .int _ _⟩
  · simp only [Option.map_eq_some_iff] at hu
    obtain ⟨y, hy, rfl⟩ := hu
    cases hx; exact ⟨_, sl (by simp [hy]), .int _ _⟩
  · cases hx
    simp only [Option.map_eq_some_iff] at hu
    obtain ⟨⟨k, e⟩, hy, rfl⟩ := hu
    exact ⟨_, by simp [Builtin.len_, run_underlying (mapT_spec hy), goInt], .int _ _⟩
  · rename_i id
    split at hu
    · rename_i es clock hget
      simp only [Option.map_eq_some_iff] at hu
      obtain ⟨⟨k, e⟩, hy, rfl⟩ := hu
      cases hx with
      | map _ r hl =>
      obtain ⟨b, es', hL, rfl, hblk, hf, hsz, hes⟩ := h.mapAt hl hget
      have hgo : (getObj r).run P X.w = .ok (.map es' clock) X.w := by simp [getObj, Sem.run, hblk]
      exact ⟨_, by simp [Builtin.len_, run_underlying (mapT_spec hy), hgo, hsz, goInt], .int _ _⟩
    · cases hu
  · cases hu

def mm2 (mx : Bool) : V → V → Option V
  | .int k a, .int _ b => some (.int k (if (if mx then b > a else b < a) then b else a))
  | _, _ => none
def mmV (mx : Bool) : List V → Option V
  | [] => none
  | x :: rest => rest.foldlM (mm2 mx) x

theorem mm_sim {mx : Bool} {t ty : TypeId} {xs : List V} {rxs : List Value} {u : V} (hx : RL X xs rxs) (hu : mmV mx xs = some u) :
    ∃ ru, (if mx then Builtin.max_ #[t] ty rxs.toArray else Builtin.min_ #[t] ty rxs.toArray).run P X.w = .ok ru X.w ∧ R X u ru := by
  have key : ∀ (xs : List V) (rxs : List Value), RL X xs rxs → ∀ (a u : V) (ra : Value), R X a ra → xs.foldlM (mm2 mx) a = some u →
      ∃ ru, (if mx then rxs.foldlM Builtin.max2 ra else rxs.foldlM Builtin.min2 ra).run P X.w = .ok ru X.w ∧ R X u ru := by
    intro xs
    induction xs with
    | nil => intro rxs hr a u ra ha hu; cases hr; simp at hu; subst hu; exact ⟨ra, by cases mx <;> simp, ha⟩
    | cons b xs ih =>
      intro rxs hr a u ra ha hu
      cases hr with
      | cons _ rb _ rrest hb hrest =>
      simp only [List.foldlM_cons, bind, Option.bind_eq_some_iff] at hu
      obtain ⟨c, hc, hu⟩ := hu
      unfold mm2 at hc
      split at hc
      · cases ha; cases hb
        cases hc
        obtain ⟨ru, h1, h2⟩ := ih _ hrest _ u _ (.int _ _) hu
        refine ⟨ru, ?_, h2⟩
        cases mx
        · simp only [Bool.false_eq_true, if_false] at h1 ⊢
          simp only [List.foldlM_cons, Builtin.min2, Sem.run_bind, Sem.run_pure, Result.andThen_ok]
          exact h1
        · simp only [if_true] at h1 ⊢
          simp only [List.foldlM_cons, Builtin.max2, Sem.run_bind, Sem.run_pure, Result.andThen_ok]
          exact h1
      · cases hc
  cases hx with
  | nil => simp [mmV] at hu
  | cons v rv vs rvs h1 h2 =>
    simp only [mmV] at hu
    obtain ⟨ru, h3, h4⟩ := key vs rvs h2 v u rv h1 hu
    refine ⟨ru, ?_, h4⟩
    cases mx
    · simpa [Builtin.min_] using h3
    · simpa [Builtin.max_] using h3

/-! ### Bytes and strings -/
def byteOf : V → Option UInt8
  | .int .u8 n => some (UInt8.ofNat n.toNat)
  | _ => none

/-- A conversion from bytes to a string. -/
def bstV (P : Program) (H : Heap) (s d : TypeId) (x : V) : Option V :=
  match slcT P s with
  | some (e, 1, _) => if strT P d = true ∧ iknT P e = some .u8 then match xcells H 1 x with
      | some (_, cs) => (cs.mapM byteOf).map fun bs => .str ⟨bs.toArray⟩
      | none => none
    else none
  | _ => none

theorem bst_loop : ∀ (cs : List V) (rcs : List Value) (bs : List UInt8) (s0 : ByteArray), RL X cs rcs → cs.mapM byteOf = some bs → ∀ w,
    (forIn rcs s0 (fun c (s : ByteArray) => (match c with
        | .int .u8 n => pure (ForInStep.yield (s.push (UInt8.ofNat n.toNat)))
        | _ => (do stuck "bytesToString: byte expected"; pure (ForInStep.yield s)) : Sem (ForInStep ByteArray)))).run P w = .ok ⟨s0.data ++ bs.toArray⟩ w
  | [], _, bs, s0, .nil, h, w => by simp at h; subst h; simp
  | _ :: cs, _, bs, s0, .cons v rv _ rvs h1 h2, h, w => by
    rw [List.mapM_cons] at h
    simp only [bind, Option.bind_eq_some_iff, pure, Option.some.injEq] at h
    obtain ⟨b, hb, bs', hbs, rfl⟩ := h
    unfold byteOf at hb
    split at hb
    · rename_i n
      cases hb; cases h1
      have := bst_loop cs rvs bs' (s0.push (UInt8.ofNat n.toNat)) h2 hbs w
      simp only [List.forIn_cons, Sem.run_bind, Sem.run_pure, Result.andThen_ok]
      rw [this]
      simp [ByteArray.push]
    · cases hb

theorem bst_sim (h : HR X H) {s d : TypeId} {x u : V} {rx : Value} (hx : R X x rx) (hu : bstV P H s d x = some u) : ∃ ru, (convert s d rx).run P X.w = .ok ru X.w ∧ R X u ru := by
  unfold bstV at hu
  split at hu
  · rename_i e by_ hs
    obtain ⟨i, hu0, hi, hsz, _⟩ := slcT_spec hs
    split at hu
    · rename_i hc
      obtain ⟨hd, he⟩ := hc
      have hd' : P.underlying d = some .string := by unfold strT at hd; split at hd <;> simp_all
      have he' := iknT_spec he
      split at hu
      · rename_i n cs hxo
        simp only [Option.map_eq_some_iff] at hu
        obtain ⟨bs, hbs, rfl⟩ := hu
        obtain ⟨a, cap, rxs, rfl, h2, h3, h4, h5⟩ := xcells_sim (P := P) h hx hxo
        refine ⟨.string ⟨bs.toArray⟩, ?_, .str _⟩
        cases a with
        | none =>
          simp [Builtin.firstCells] at h3
          subst h3
          cases h4
          simp at hbs
          subst hbs
          simp [convert, run_underlying hu0, run_underlying hd', run_underlying he', Conv.bytesToString]
          rfl
        | some a =>
          simp only [Builtin.firstCells, Nat.mul_one] at h3
          have := bst_loop (P := P) cs rxs bs ByteArray.empty h4 hbs X.w
          simp only [convert, run_underlying hu0, run_underlying hd', run_underlying he', Conv.bytesToString, Sem.run_bind, Result.andThen_ok, h3, ← Array.forIn_toList]
          erw [this]
          have e0 : ByteArray.empty.data = #[] := rfl
          simp only [e0, Result.andThen_ok, Sem.run_pure, Array.empty_append]
      · cases hu
    · cases hu
  · cases hu

end
end Go.Ns

/- Ns, part M: maps. -/
namespace Go.Ns
section
variable {P : Program} {X : Cx} {H : Heap}

/-! ### Keys -/
def keqV (P : Program) (kt : TypeId) (a b : V) : Option Bool :=
  match a, b with
  | .int k a, .int k' b => if k = k' ∧ iknT P kt = some k then some (a == b) else none
  | .agg xs, .agg ys => eqAgg P kt xs ys
  | _, _ => none

/-- May it be a key? -/
def keyV (P : Program) (kt : TypeId) (a : V) : Bool :=
  match a with
  | .int k _ => iknT P kt == some k
  | .agg xs => match kindsT P 12 kt with | some ks => fitsV ks xs && (aggT P kt == some true) | none => false
  | _ => false

def findV (P : Program) (kt : TypeId) (k : V) : List (V × V × Nat) → Nat → Option (Option (Nat × V))
  | [], _ => some none
  | e :: es, i => match keqV P kt k e.1 with
    | some true => some (some (i, e.2.1))
    | some false => findV P kt k es (i + 1)
    | none => none

/-- Entries of a map, and the model's. -/
def ER (X : Cx) (es : List (V × V × Nat)) (es' : List MapEntry) : Prop :=
  es'.length = es.length ∧ ∀ (j : Nat) (e : V × V × Nat) (e' : MapEntry), es[j]? = some e → es'[j]? = some e' → R X e.1 e'.key ∧ R X e.2.1 e'.val ∧ e'.born = e.2.2

theorem ER.tail {e : V × V × Nat} {es : List (V × V × Nat)} {e' : MapEntry} {es' : List MapEntry} (h : ER X (e :: es) (e' :: es')) : (R X e.1 e'.key ∧ R X e.2.1 e'.val ∧ e'.born = e.2.2) ∧ ER X es es' :=
  ⟨h.2 0 e e' rfl rfl, by simpa using h.1, fun j a b ha hb => h.2 (j + 1) a b (by simpa using ha) (by simpa using hb)⟩

def FindR (X : Cx) (_ : Nat) : Option (Nat × V) → Option (Nat × Value) → Prop
  | none, none => True
  | some (i, v), some (j, rv) => i = j ∧ R X v rv
  | _, _ => False

theorem find_now {kt : TypeId} {q : IntKind} (a : Int) : ∀ (es : List (V × V × Nat)) (es' : List MapEntry) (i : Nat) (r : Option (Nat × V)), ER X es es' → findV P kt (.int q a) es i = some r →
    ∃ rr, Instr.findNow (.int q) (.int q a) es' i = some rr ∧ FindR X 0 r rr
  | [], [], i, r, _, h => by simp [findV] at h; subst h; exact ⟨none, rfl, trivial⟩
  | e :: es, e' :: es', i, r, hr, h => by
    obtain ⟨⟨h1, h2, h3⟩, ht⟩ := hr.tail
    simp only [findV] at h
    obtain ⟨k, v, b⟩ := e
    cases k <;> simp [keqV] at h
    rename_i k' a'
    cases h1e : e'.key <;> rw [h1e] at h1 <;> cases h1
    by_cases hk : q = k' ∧ iknT P kt = some q
    · simp only [hk, and_self, if_true] at h
      obtain ⟨rfl, _⟩ := hk
      cases hab : (a == a')
      · simp only [hab] at h
        obtain ⟨rr, e1, e2⟩ := find_now a es es' (i + 1) r ht h
        exact ⟨rr, by simp [Instr.findNow, Instr.sameNow, h1e, hab, e1], e2⟩
      · simp only [hab] at h
        cases h
        exact ⟨some (i, e'.val), by simp [Instr.findNow, Instr.sameNow, h1e, hab], rfl, h2⟩
    · simp [hk] at h
  | [], _ :: _, _, _, h, _ => by simp [ER] at h
  | _ :: _, [], _, _, h, _ => by simp [ER] at h

theorem find_asking {kt : TypeId} {xs : List V} {rxs : List Value} (hx : RL X xs rxs) : ∀ (es : List (V × V × Nat)) (es' : List MapEntry) (i : Nat) (r : Option (Nat × V)), ER X es es' → findV P kt (.agg xs) es i = some r →
    ∃ rr, (Instr.findAsking kt (.agg rxs.toArray) es' i).run P X.w = .ok rr X.w ∧ FindR X 0 r rr
  | [], [], i, r, _, h => by simp [findV] at h; subst h; exact ⟨none, rfl, trivial⟩
  | e :: es, e' :: es', i, r, hr, h => by
    obtain ⟨⟨h1, h2, h3⟩, ht⟩ := hr.tail
    simp only [findV] at h
    obtain ⟨k, v, b⟩ := e
    cases k <;> simp only [keqV] at h <;> (try (cases h; done))
    rename_i ys
    cases h1e : e'.key <;> rw [h1e] at h1 <;> cases h1
    rename_i rys hall hy
    split at h
    · rename_i hq
      cases h
      obtain ⟨he, _⟩ := eqAgg_sim hx hy hq
      exact ⟨some (i, e'.val), by simp [Instr.findAsking, h1e, he], rfl, h2⟩
    · rename_i hq
      obtain ⟨he, _⟩ := eqAgg_sim hx hy hq
      obtain ⟨rr, e1, e2⟩ := find_asking hx es es' (i + 1) r ht h
      exact ⟨rr, by simp [Instr.findAsking, h1e, he, e1], e2⟩
    · cases h
  | [], _ :: _, _, _, h, _ => by simp [ER] at h
  | _ :: _, [], _, _, h, _ => by simp [ER] at h

theorem find_sim {kt : TypeId} {k : V} {rk : Value} (hk : R X k rk) (hkey : keyV P kt k = true) {es : List (V × V × Nat)} {es' : List MapEntry} {r : Option (Nat × V)} (he : ER X es es') (h : findV P kt k es 0 = some r) :
    ∃ rr, (Instr.findKey kt rk es').run P X.w = .ok rr X.w ∧ FindR X 0 r rr := by
  unfold keyV at hkey
  split at hkey
  · rename_i q a
    cases hk
    have hu := iknT_spec (P := P) (by simpa using hkey : iknT P kt = some q)
    obtain ⟨rr, e1, e2⟩ := find_now (P := P) a es es' 0 r he h
    exact ⟨rr, by simp [Instr.findKey, run_underlying hu, e1], e2⟩
  · rename_i xs
    cases hk with
    | agg _ rxs hall hx =>
    split at hkey
    · rename_i ks hks
      simp only [Bool.and_eq_true, beq_iff_eq] at hkey
      obtain ⟨d, hu, hd⟩ : ∃ d, P.underlying kt = some d ∧ ∀ a b, Instr.sameNow d (.agg a) b = none := by
        have := hkey.2
        unfold aggT at this
        cases hq : P.underlying kt with
        | none => simp [hq] at this
        | some d => exact ⟨d, rfl, fun a b => by cases d <;> simp [hq] at this <;> cases b <;> rfl⟩
      cases es' with
      | nil =>
        cases es with
        | nil => simp [findV] at h; subst h; exact ⟨none, by simp [Instr.findKey, run_underlying hu, Instr.findNow], trivial⟩
        | cons _ _ => simp [ER] at he
      | cons e' es' =>
        obtain ⟨rr, e1, e2⟩ := find_asking (P := P) hx es (e' :: es') 0 r he h
        exact ⟨rr, by simp only [Instr.findKey, Sem.run_bind, run_underlying hu, Result.andThen_ok, Instr.findNow, hd]; exact e1, e2⟩
    · cases hkey
  · cases hkey

/-! ### A key may be hashed -/
def CkT (P : Program) (X : Cx) (em : Bool) (dd : Nat) (t : TypeId) (ks : List PK) : Prop :=
  ∀ (xs : List V) (rxs : List Value) (off : Nat), RL X xs rxs → fitsV ks (rd xs off ks.length) = true →
    ∃ a, (part t rxs.toArray off).run P X.w = .ok a X.w ∧ (Instr.checkKey em dd t a).run P X.w = .ok () X.w ∧ (aggT P t = some true → a = .agg ((rxs.drop off).take ks.length).toArray)

theorem ckFields_sim (em : Bool) (dd : Nat) (g : Field → Option (List PK)) {xs : List V} {rxs : List Value} (h1 : RL X xs rxs) : ∀ (fs : List Field) (acc ks : List PK),
    (∀ f ∈ fs, ∀ kf, g f = some kf → CkT P X em dd f.type kf) →
    fs.foldlM (fun (acc : List PK) f => (g f).bind fun ks => if fieldFits P acc f ks = true then some (acc ++ ks) else none) acc = some ks →
    fitsV ks xs = true →
    (forIn fs PUnit.unit (fun f (_ : PUnit) => (if f.name ≠ "_" then (do Instr.checkKey em dd f.type (← part f.type rxs.toArray f.offset); pure (ForInStep.yield PUnit.unit)) else pure (ForInStep.yield PUnit.unit) : Sem (ForInStep PUnit)))).run P X.w = .ok PUnit.unit X.w
  | [], acc, ks, _, h, hx => by simp
  | f :: fs, acc, ks, hall, h, hx => by
    simp only [List.foldlM_cons, bind, Option.bind_eq_some_iff] at h
    obtain ⟨acc', ⟨kf, hkf, hif⟩, hrest⟩ := h
    split at hif
    · rename_i hc
      simp only [fieldFits, decide_eq_true_eq] at hc
      obtain ⟨hn, ho, hsz⟩ := hc
      cases hif
      obtain ⟨kr, hkr⟩ := fold_prefix g (fieldFits P) fs _ _ hrest
      have hks : ks = acc ++ (kf ++ kr) := by simpa using hkr
      have fx := fitsV_part (hks ▸ hx)
      obtain ⟨a, p1, p2, _⟩ := hall f (by simp) kf hkf xs rxs acc.length h1 fx
      have ih := ckFields_sim em dd g h1 fs (acc ++ kf) ks (fun x hx => hall x (by simp [hx])) hrest hx
      simp only [List.forIn_cons, Sem.run_bind, hn, ne_eq, not_false_eq_true, if_true, ho, p1, p2, Result.andThen_ok, Sem.run_pure]
      exact ih
    · cases hif

theorem ckItems_sim (em : Bool) (dd : Nat) {e : TypeId} {kf : List PK} (IH : CkT P X em dd e kf) (hse : ∀ w, (sizeOf e).run P w = .ok kf.length w) {xs : List V} {rxs : List Value} (h1 : RL X xs rxs) (n : Nat)
    (hx : fitsV (List.replicate n kf).flatten xs = true) : ∀ (m k : Nat), k + m = n →
    (forIn (List.range' k m) PUnit.unit (fun i (_ : PUnit) => ((do Instr.checkKey em dd e (← part e rxs.toArray (i * (← sizeOf e))); pure (ForInStep.yield PUnit.unit)) : Sem (ForInStep PUnit)))).run P X.w = .ok PUnit.unit X.w
  | 0, k, hk => by simp
  | m + 1, k, hk => by
    have hrep : (List.replicate n kf).flatten = (List.replicate k kf).flatten ++ (kf ++ (List.replicate m kf).flatten) := by
      rw [show n = k + (m + 1) by omega, ← List.replicate_append_replicate, List.flatten_append, List.replicate_succ, List.flatten_cons]
    have hlk : ((List.replicate k kf).flatten).length = k * kf.length := by simp
    have fx := fitsV_part (hrep ▸ hx)
    rw [hlk] at fx
    obtain ⟨a, p1, p2, _⟩ := IH xs rxs (k * kf.length) h1 fx
    have ih := ckItems_sim em dd IH hse h1 n hx m (k + 1) (by omega)
    simp only [List.range'_succ, List.forIn_cons, Sem.run_bind, hse, p1, p2, Result.andThen_ok, Sem.run_pure]
    exact ih

theorem ckT_of_kinds (em : Bool) (c : Nat) : ∀ (d : Nat) (t : TypeId) (ks : List PK), kindsT P d t = some ks → CkT P X em (c + d) t ks
  | 0, t, ks, h => by simp [kindsT] at h
  | d + 1, t, ks, h => by
    intro xs rxs off h1 fx
    unfold kindsT at h
    split at h
    · rename_i hu
      split at h
      · cases h
        obtain ⟨v, hv, hf, hr1⟩ := fits_one fx
        obtain ⟨ra, e1, r1⟩ := h1.get off hv
        have hg : aggT P t = some false := by simp [aggT, hu]
        exact ⟨ra, by simp [part, run_isAgg hg, e1], by simp [Instr.checkKey, run_underlying hu], by simp [hg]⟩
      · cases h
    · rename_i k hu
      split at h
      · cases h
        obtain ⟨v, hv, hf, hr1⟩ := fits_one fx
        obtain ⟨ra, e1, r1⟩ := h1.get off hv
        have hg : aggT P t = some false := by simp [aggT, hu]
        exact ⟨ra, by simp [part, run_isAgg hg, e1], by simp [Instr.checkKey, run_underlying hu], by simp [hg]⟩
      · cases h
    · rename_i hu
      split at h
      · cases h
        obtain ⟨v, hv, hf, hr1⟩ := fits_one fx
        obtain ⟨ra, e1, r1⟩ := h1.get off hv
        have hg : aggT P t = some false := by simp [aggT, hu]
        exact ⟨ra, by simp [part, run_isAgg hg, e1], by simp [Instr.checkKey, run_underlying hu], by simp [hg]⟩
      · cases h
    · rename_i n e hu
      simp only [Option.bind_eq_some_iff] at h
      obtain ⟨kf, hkf, hif⟩ := h
      split at hif
      · rename_i hc
        cases hif
        have hg : aggT P t = some true := by simp [aggT, hu]
        have hl : ((List.replicate n kf).flatten).length = n * kf.length := by simp
        rw [hl] at fx ⊢
        have hsz : (sizeOf t).run P X.w = .ok (n * kf.length) X.w := run_sizeOf hc.2 _
        refine ⟨.agg ((rxs.drop off).take (n * kf.length)).toArray, by simp [part, run_isAgg hg, hsz], ?_, fun _ => rfl⟩
        have := ckItems_sim (P := P) (X := X) em (c + d) (ckT_of_kinds em c d e kf hkf) (fun w => run_sizeOf hc.1 w) (xs := rd xs off (n * kf.length)) ((h1.drop off).take _) n fx n 0 (by omega)
        rw [show c + (d + 1) = (c + d) + 1 from rfl]
        simp only [Instr.checkKey, Sem.run_bind, run_underlying hu, Result.andThen_ok]
        simp only [Std.Legacy.Range.forIn_eq_forIn_range', Std.Legacy.Range.size, Nat.sub_zero, Nat.add_one_sub_one, Nat.div_one]
        (rw [this]; rfl)
      · cases hif
    · rename_i fs hu
      split at h
      · cases h
      · rename_i hst
        simp only [Option.bind_eq_some_iff] at h
        obtain ⟨ks', hfold, hif⟩ := h
        split at hif
        · rename_i hc
          cases hif
          have hg : aggT P t = some true := by simp [aggT, hu]
          have hsz : (sizeOf t).run P X.w = .ok ks.length X.w := run_sizeOf hc _
          refine ⟨.agg ((rxs.drop off).take ks.length).toArray, by simp [part, run_isAgg hg, hsz], ?_, fun _ => rfl⟩
          have := ckFields_sim (P := P) (X := X) em (c + d) (fun f => kindsT P d f.type) (xs := rd xs off ks.length) ((h1.drop off).take _) fs.toList [] ks
            (fun f _ kf hkf => ckT_of_kinds em c d f.type kf hkf) (by simpa [fieldFits] using hfold) fx
          rw [show c + (d + 1) = (c + d) + 1 from rfl]
          simp only [Instr.checkKey, Sem.run_bind, run_underlying hu, Result.andThen_ok, ← Array.forIn_toList]
          (rw [this]; rfl)
        · cases hif
    · cases h

theorem ck_sim {kt : TypeId} {k : V} {rk : Value} (hk : R X k rk) (hkey : keyV P kt k = true) (em : Bool) : (Instr.checkKey em 10000 kt rk).run P X.w = .ok () X.w := by
  unfold keyV at hkey
  split at hkey
  · rename_i q a
    cases hk
    have hu := iknT_spec (P := P) (by simpa using hkey : iknT P kt = some q)
    have : ∀ d, (Instr.checkKey em (d + 1) kt (.int q a)).run P X.w = .ok () X.w := fun d => by simp [Instr.checkKey, run_underlying hu]
    exact this 9999
  · rename_i xs
    cases hk with
    | agg _ rxs hall hx =>
    split at hkey
    · rename_i ks hks
      simp only [Bool.and_eq_true, beq_iff_eq] at hkey
      have l1 := fitsV_length hkey.1
      obtain ⟨a, p1, p2, p3⟩ := ckT_of_kinds (P := P) (X := X) em 9988 12 kt ks hks xs rxs 0 hx (by rw [rd_all_len _ _ l1.symm]; exact hkey.1)
      have := p3 hkey.2
      subst this
      have e1 : List.take ks.length (rxs.drop 0) = rxs := by simp [List.take_of_length_le, l1, hx.length]
      rw [e1] at p2
      exact p2
    · cases hkey
  · cases hkey

end
end Go.Ns

/- Ns, part N: what is done with maps. -/
namespace Go.Ns
section
variable {P : Program} {X : Cx} {H : Heap}

/-- An object that is no row of cells is another now. -/
def Cx.obj (X : Cx) (r : Nat) (o : Obj) : Cx := { X with w := { X.w with heap := X.w.heap.setIfInBounds r o } }

def Obj.plain : Obj → Bool | .cells .. => false | _ => true

theorem ext_obj (h : HR X H) {id b : Nat} (hL : X.L id = .live b 0) {ob ob' : Obj} (hb : X.w.heap[b]? = some ob) (h1 : Obj.plain ob = true) (base : Nat) : Ext base X (X.obj b ob') where
  links _ := .refl _
  low _ _ := rfl
  fb _ h := h
  frozen k hk := by
    obtain ⟨_, _, _, _, hf, _⟩ := h.live id b 0 hL
    have hne : k ≠ b := fun e => hf (e ▸ hk)
    simp [Cx.obj, Array.getElem?_setIfInBounds_ne (Ne.symm hne)]
  shapes k s hs := by
    by_cases hk : k = b
    · subst hk
      simp only [World.shape?, hb] at hs
      cases ob <;> simp [Obj.plain] at h1 hs
    · simp only [Cx.obj, World.shape?, Array.getElem?_setIfInBounds_ne (Ne.symm hk)] at hs ⊢
      exact hs
  size := by simp [Cx.obj]
  os := rfl
  tape := rfl
  output := rfl

theorem hr_obj (h : HR X H) {id b : Nat} (hL : X.L id = .live b 0) {ob ob' : Obj} (hb : X.w.heap[b]? = some ob) (h1 : Obj.plain ob = true) {o : HObj} (ho : ObjR X o 0 ob') : HR (X.obj b ob') (H.set id o) where
  fresh k hk := h.fresh k hk
  live k b' g' hl := by
    by_cases hk : k = id
    · subst hk
      have hl' : X.L k = .live b' g' := hl
      rw [hL] at hl'; cases hl'
      obtain ⟨_, _, _, _, hf, _⟩ := h.live k b 0 hL
      have hlt := (Array.getElem?_eq_some_iff.1 hb).1
      exact ⟨o, ob', by simp [Heap.set], by simp [Cx.obj, hlt], hf, ho.mono (ext_obj h hL hb h1 0)⟩
    · obtain ⟨o', ob'', q1, q2, q3, q4⟩ := h.live k b' g' hl
      have hne : b' ≠ b := fun e => hk (h.inj k id b' g' 0 hl (e ▸ hL))
      exact ⟨o', ob'', by simp [Heap.set, hk, q1], by simp [Cx.obj, Array.getElem?_setIfInBounds_ne (Ne.symm hne), q2], q3, q4.mono (ext_obj h hL hb h1 0)⟩
  dead k hl := by
    have hl' : X.L k = .dead := hl
    have : k ≠ id := fun e => by subst e; rw [hL] at hl'; cases hl'
    simp [Heap.set, this, h.dead k hl']
  inj := h.inj
  fbs k hk := by have := h.fbs k hk; simpa [Cx.obj] using this

theorem run_getObj_map {w : World} {b : Nat} {es : Array MapEntry} {c : Nat} (h : w.heap[b]? = some (.map es c)) : (getObj b).run P w = .ok (.map es c) w := by simp [getObj, Sem.run, h]
theorem run_setObj_map {w : World} {b : Nat} {es : Array MapEntry} {c : Nat} {o : Obj} (h : w.heap[b]? = some (.map es c)) : (setObj b o).run P w = .ok () { w with heap := w.heap.setIfInBounds b o } := by simp [setObj, Sem.run, h]
theorem run_getObj_iter {w : World} {b : Nat} {m : Option Nat} {a : Nat} {s : Array Nat} {c : Nat} (h : w.heap[b]? = some (.mapIter m a s c)) : (getObj b).run P w = .ok (.mapIter m a s c) w := by simp [getObj, Sem.run, h]
theorem run_setObj_iter {w : World} {b : Nat} {m : Option Nat} {a : Nat} {s : Array Nat} {c : Nat} {o : Obj} (h : w.heap[b]? = some (.mapIter m a s c)) : (setObj b o).run P w = .ok () { w with heap := w.heap.setIfInBounds b o } := by simp [setObj, Sem.run, h]

theorem er_of {es : List (V × V × Nat)} {es' : Array MapEntry} (h1 : es'.size = es.length) (h2 : ∀ (j : Nat) (e : V × V × Nat) (e' : MapEntry), es[j]? = some e → es'[j]? = some e' → R X e.1 e'.key ∧ R X e.2.1 e'.val ∧ e'.born = e.2.2) : ER X es es'.toList :=
  ⟨by simpa using h1, fun j e e' a b => h2 j e e' a (by simpa using b)⟩

/-! ### lookup -/
def lkOut (ok : Bool) (z : V) : Option (Nat × V) → V
  | some (_, v) => if ok then .tup [v, .bool true] else v
  | none => if ok then .tup [z, .bool false] else z

def lkV (P : Program) (H : Heap) (t : TypeId) (m k : V) (ok : Bool) : Option V :=
  match mapT P t with
  | some (kt, e) => if keyV P kt k = true then match (match m with
      | .nilm => some none
      | .map id => match H.get id with | some (.map es _) => findV P kt k es 0 | _ => none
      | _ => none), zvT P e with
    | some r, some z => some (lkOut ok z r)
    | _, _ => none
  else none
  | none => none

def lookTail (es : Array MapEntry) (kt e : TypeId) (rk : Value) (ok : Bool) : Sem Value := do
  Instr.checkKey es.isEmpty 10000 kt rk
  let (v, there) ← match ← Instr.findKey kt rk es.toList with
    | some (_, v) => pure (v, true)
    | none => do pure (← zeroValue e, false)
  pure (if ok then .tuple #[v, .bool there] else v)

theorem tail_sim {kt e : TypeId} {k z u : V} {rk : Value} (hk : R X k rk) (hkey : keyV P kt k = true) {ok : Bool} {es : List (V × V × Nat)} {es' : Array MapEntry} (he : ER X es es'.toList) {r : Option (Nat × V)} (hr : findV P kt k es 0 = some r) (hz : zvT P e = some z)
    (hu : lkOut ok z r = u) : ∃ ru, (lookTail es' kt e rk ok).run P X.w = .ok ru X.w ∧ R X u ru := by
  obtain ⟨rz, z1, z2⟩ := zv_sim (X := X) hz
  obtain ⟨rr, e1, e2⟩ := find_sim (P := P) hk hkey he hr
  have hck := ck_sim (P := P) hk hkey es'.isEmpty
  cases r with
  | none =>
    cases rr with
    | some _ => exact e2.elim
    | none =>
      subst hu
      cases ok
      · exact ⟨rz, by simp [lookTail, hck, e1, z1], z2⟩
      · exact ⟨_, by simp [lookTail, hck, e1, z1], R.pair z2 (.bool _)⟩
  | some p =>
    obtain ⟨i, v⟩ := p
    cases rr with
    | none => exact e2.elim
    | some q =>
      obtain ⟨j, rv⟩ := q
      obtain ⟨_, c4⟩ := e2
      subst hu
      cases ok
      · exact ⟨rv, by simp [lookTail, hck, e1], c4⟩
      · exact ⟨_, by simp [lookTail, hck, e1], R.pair c4 (.bool _)⟩

theorem lk_sim (h : HR X H) {t : TypeId} {m k u : V} {rm rk : Value} {ok : Bool} (hm : R X m rm) (hk : R X k rk) (hu : lkV P H t m k ok = some u) :
    ∃ ru, (Instr.lookup t rm rk ok).run P X.w = .ok ru X.w ∧ R X u ru := by
  unfold lkV at hu
  split at hu
  · rename_i kt e ht
    have hu0 := mapT_spec ht
    split at hu
    · rename_i hkey
      split at hu
      · rename_i r z hr hz
        have hu' : lkOut ok z r = u := by simpa using hu
        clear hu
        cases hm with
        | nilm =>
          simp only [Option.some.injEq] at hr
          subst hr
          obtain ⟨ru, h1, h2⟩ := tail_sim (P := P) hk hkey (ok := ok) (es := []) (es' := #[]) ⟨rfl, fun j e e' a => by simp at a⟩ (r := none) (by simp [findV]) hz hu'
          exact ⟨ru, by simp only [Instr.lookup, Sem.run_bind, run_underlying hu0, Result.andThen_ok, Sem.run_pure]; simp only [lookTail, Sem.run_bind] at h1; exact h1, h2⟩
        | map id r0 hl =>
          simp only at hr
          split at hr
          · rename_i es clock hget
            obtain ⟨b, es', hL, rfl, hblk, hf, hsz, hes⟩ := h.mapAt hl hget
            obtain ⟨ru, h1, h2⟩ := tail_sim (P := P) hk hkey (ok := ok) (er_of hsz hes) hr hz hu'
            exact ⟨ru, by simp only [Instr.lookup, Sem.run_bind, run_underlying hu0, Result.andThen_ok, Sem.run_pure, run_getObj_map hblk]; simp only [lookTail, Sem.run_bind] at h1; exact h1, h2⟩
          · cases hr
        | _ => simp at hr
      · cases hu
    · cases hu
  · cases hu

/-! ### makeMap -/
def mmpV (H : Heap) : V × Heap := (.map H.n, H.new (.map [] 0))

theorem mmp_sim (h : HR X H) {base : Nat} (hb : base ≤ H.n) (t : TypeId) :
    ∃ ru w', (Instr.makeMap t none).run P X.w = .ok ru w' ∧ Eff base X H (mmpV H).2 (mmpV H).1 ru w' :=
  ⟨.map (some X.w.heap.size), _, by simp [Instr.makeMap]; rfl, X.push H.n (.map #[] 0), rfl, hr_push h (by simp [ObjR]), ext_push h _ hb, low_new hb _,
    .map _ _ (by
      have : (X.push H.n (.map #[] 0)).L H.n = .live X.w.heap.size 0 := by simp [Cx.push]
      rw [this]; exact ⟨Nat.le_refl _, fun _ => rfl⟩)⟩

/-! ### mapUpdate -/
def muV (P : Program) (base : Nat) (H : Heap) (t : TypeId) (m k x : V) : Option Heap :=
  match mapT P t, m with
  | some (kt, _), .map id => match H.get id with
    | some (.map es clock) => if keyV P kt k = true ∧ base ≤ id then match findV P kt k es 0 with
        | some (some (i, _)) => some (H.set id (.map (es.modify i fun e => (k, x, e.2.2)) clock))
        | some none => some (H.set id (.map (es ++ [(k, x, clock)]) (clock + 1)))
        | none => none
      else none
    | _ => none
  | _, _ => none

/-! ### delete -/
def dlV (P : Program) (base : Nat) (H : Heap) (t : TypeId) (m k : V) : Option Heap :=
  match mapT P t, m with
  | some (kt, _), .map id => match H.get id with
    | some (.map es clock) => if keyV P kt k = true ∧ base ≤ id then match findV P kt k es 0 with
        | some (some (i, _)) => some (H.set id (.map (es.eraseIdx i) clock))
        | some none => some H
        | none => none
      else none
    | _ => none
  | _, _ => none

end
end Go.Ns

/- Ns, part O: writing to maps, and going through them. -/
namespace Go.Ns
section
variable {P : Program} {X : Cx} {H : Heap}

theorem findV_spec {kt : TypeId} {k : V} : ∀ (es : List (V × V × Nat)) (i0 i : Nat) (v : V), findV P kt k es i0 = some (some (i, v)) → ∃ j e, i = i0 + j ∧ es[j]? = some e ∧ keqV P kt k e.1 = some true ∧ v = e.2.1
  | [], i0, i, v, h => by simp [findV] at h
  | e :: es, i0, i, v, h => by
    simp only [findV] at h
    split at h
    · rename_i hq
      simp only [Option.some.injEq, Prod.mk.injEq] at h
      exact ⟨0, e, by omega, rfl, hq, h.2.symm⟩
    · obtain ⟨j, e', h1, h2, h3, h4⟩ := findV_spec es (i0 + 1) i v h
      exact ⟨j + 1, e', by omega, by simpa using h2, h3, h4⟩
    · cases h

theorem sameBits_cells (n : Nat) : ∀ (ks : List PK) (xs ys : List V) (rxs rys : List Value), fitsV ks xs = true → fitsV ks ys = true → eqVs xs ys = true → RL X xs rxs → RL X ys rys →
    (rys.zip rxs).all (fun p => Instr.sameBits n p.1 p.2) = true
  | [], [], [], _, _, _, _, _, .nil, .nil => rfl
  | k :: ks, x :: xs, y :: ys, _, _, hx, hy, he, .cons _ rx _ rxs h1 h2, .cons _ ry _ rys h3 h4 => by
    simp only [fitsV, Bool.and_eq_true] at hx hy
    simp only [eqVs, Bool.and_eq_true] at he
    have ih := sameBits_cells n ks xs ys rxs rys hx.2 hy.2 he.2 h2 h4
    simp only [List.zip_cons_cons, List.all_cons, ih, Bool.and_true]
    cases x <;> cases y <;> simp [eqV] at he <;> cases h1 <;> cases h3
    · obtain ⟨rfl, _⟩ := he; cases n <;> simp [Instr.sameBits]
    · obtain ⟨rfl, _⟩ := he
      have k1 := hx.1; have k2 := hy.1
      cases k <;> simp [fitV] at k1 k2
      subst k1 k2
      cases n <;> simp [Instr.sameBits]
    · obtain ⟨he, _⟩ := he
      cases n <;> simp [Instr.sameBits, beq_toListBytes, he]
  | [], x :: _, _, _, _, hx, _, _, _, _ => by simp [fitsV] at hx
  | [], [], y :: _, _, _, _, hy, _, _, _ => by simp [fitsV] at hy
  | _ :: _, [], _, _, _, hx, _, _, _, _ => by simp [fitsV] at hx
  | _ :: _, _ :: _, [], _, _, _, hy, _, _, _ => by simp [fitsV] at hy

theorem sameBits_sim {kt : TypeId} {k k' : V} {rk rk' : Value} (h1 : R X k rk) (h2 : R X k' rk') (h : keqV P kt k k' = some true) (n : Nat) : Instr.sameBits (n + 1) rk' rk = true := by
  unfold keqV at h
  split at h
  · split at h
    · rename_i hc
      obtain ⟨rfl, _⟩ := hc
      cases h1; cases h2
      simp at h
      subst h
      simp [Instr.sameBits]
    · cases h
  · cases h1 with
    | agg _ rxs _ hx =>
    cases h2 with
    | agg _ rys _ hy =>
    unfold eqAgg at h
    split at h
    · rename_i ks hks
      split at h
      · rename_i hc
        obtain ⟨f1, f2, _⟩ := hc
        simp only [Option.some.injEq] at h
        have := sameBits_cells n ks _ _ _ _ f1 f2 h hx hy
        have l1 := fitsV_length f1
        have l2 := fitsV_length f2
        simp only [Instr.sameBits, List.size_toArray, ← hx.length, ← hy.length, ← l1, ← l2, beq_self_eq_true, Bool.true_and]
        simpa using this
      · cases h
    · cases h
  · cases h

theorem mu_sim (h : HR X H) {base : Nat} {t : TypeId} {m k x : V} {rm rk rx : Value} {H' : Heap} (hm : R X m rm) (hk : R X k rk) (hx : R X x rx) (hu : muV P base H t m k x = some H') :
    ∃ w' X', (Instr.mapUpdate t rm rk rx).run P X.w = .ok () w' ∧ X'.w = w' ∧ HR X' H' ∧ Ext base X X' ∧ Low base H H' := by
  unfold muV at hu
  split at hu
  · rename_i kt e id ht
    have hu0 := mapT_spec ht
    split at hu
    · rename_i es clock hget
      split at hu
      · rename_i hc
        obtain ⟨hkey, hb⟩ := hc
        cases hm with
        | map _ r hl =>
        obtain ⟨b, es', hL, rfl, hblk, hf, hsz, hes⟩ := h.mapAt hl hget
        have hck := ck_sim (P := P) hk hkey false
        split at hu
        · rename_i i v hfind
          cases hu
          obtain ⟨rr, e1, e2⟩ := find_sim (P := P) hk hkey (er_of hsz hes) hfind
          cases rr with
          | none => exact e2.elim
          | some p =>
          obtain ⟨j, rv⟩ := p
          obtain ⟨rfl, _⟩ := e2
          obtain ⟨j, e0, hj, he0, hkq, _⟩ := findV_spec es 0 i v hfind
          have hj : i = j := by omega
          subst hj
          have hlt : i < es.length := (List.getElem?_eq_some_iff.1 he0).1
          obtain ⟨e0', he0'⟩ : ∃ e0', es'[i]? = some e0' := ⟨es'[i]'(by omega), by simp [hsz, hlt]⟩
          obtain ⟨k1, k2, k3⟩ := hes i e0 e0' he0 he0'
          have hsame := sameBits_sim (P := P) hk k1 hkq 9999
          have hst : (Instr.keyThatStays (((es'[i]?).map (·.key)).getD rk) rk).run P X.w = .ok rk X.w := by
            simp [Instr.keyThatStays, he0', hsame]
          refine ⟨_, X.obj r (.map (es'.modify i fun e => { e with key := rk, val := rx }) clock), ?_, rfl, hr_obj h hL hblk rfl ?_, ext_obj h hL hblk rfl base, low_set hb _⟩
          · simp only [Instr.mapUpdate, Sem.run_bind, run_underlying hu0, Result.andThen_ok, run_getObj_map hblk, hck, e1, hst, run_setObj_map hblk]
            rfl
          · refine ⟨rfl, rfl, by simp [hsz], fun j a a' ha ha' => ?_⟩
            simp only [List.getElem?_modify, Array.getElem?_modify, Option.map_eq_some_iff, Option.map_eq_map] at ha ha'
            obtain ⟨c, hc1, hc2⟩ := ha
            by_cases hij : i = j
            · subst hij
              simp only [if_true, Option.map_eq_some_iff] at ha' hc2
              obtain ⟨c', hc1', hc2'⟩ := ha'
              rw [he0] at hc1; cases hc1
              rw [he0'] at hc1'; cases hc1'
              subst hc2 hc2'
              exact ⟨hk, hx, k3⟩
            · rw [if_neg hij] at hc2 ha'
              subst hc2
              exact hes j c a' hc1 ha'
        · rename_i hfind
          cases hu
          obtain ⟨rr, e1, e2⟩ := find_sim (P := P) hk hkey (er_of hsz hes) hfind
          cases rr with
          | some p => exact e2.elim
          | none =>
          refine ⟨_, X.obj r (.map (es'.push { key := rk, val := rx, born := clock }) (clock + 1)), ?_, rfl, hr_obj h hL hblk rfl ?_, ext_obj h hL hblk rfl base, low_set hb _⟩
          · simp only [Instr.mapUpdate, Sem.run_bind, run_underlying hu0, Result.andThen_ok, run_getObj_map hblk, hck, e1, run_setObj_map hblk]
            rfl
          · refine ⟨rfl, rfl, by simp [hsz], fun j a a' ha ha' => ?_⟩
            rw [Array.getElem?_push] at ha'
            rw [List.getElem?_append] at ha
            by_cases hj : j < es.length
            · rw [if_pos hj] at ha
              rw [if_neg (by omega)] at ha'
              exact hes j a a' ha ha'
            · rw [if_neg hj] at ha
              by_cases hj2 : j = es'.size
              · rw [if_pos hj2] at ha'
                cases ha'
                have : j - es.length = 0 := by omega
                rw [this] at ha
                simp at ha
                subst ha
                exact ⟨hk, hx, rfl⟩
              · rw [if_neg hj2] at ha'
                have := (Array.getElem?_eq_some_iff.1 ha').1
                omega
        · cases hu
      · cases hu
    · cases hu
  · cases hu

theorem dl_sim (h : HR X H) {base : Nat} {t t1 ty : TypeId} {m k : V} {rm rk : Value} {H' : Heap} (hm : R X m rm) (hk : R X k rk) (hu : dlV P base H t m k = some H') :
    ∃ w' X', (Builtin.delete_ #[t, t1] ty #[rm, rk]).run P X.w = .ok (.tuple #[]) w' ∧ X'.w = w' ∧ HR X' H' ∧ Ext base X X' ∧ Low base H H' := by
  unfold dlV at hu
  split at hu
  · rename_i kt e id ht
    have hu0 := mapT_spec ht
    split at hu
    · rename_i es clock hget
      split at hu
      · rename_i hc
        obtain ⟨hkey, hb⟩ := hc
        cases hm with
        | map _ r hl =>
        obtain ⟨b, es', hL, rfl, hblk, hf, hsz, hes⟩ := h.mapAt hl hget
        have hck := ck_sim (P := P) hk hkey es'.isEmpty
        split at hu
        · rename_i i v hfind
          cases hu
          obtain ⟨rr, e1, e2⟩ := find_sim (P := P) hk hkey (er_of hsz hes) hfind
          cases rr with
          | none => exact e2.elim
          | some p =>
          obtain ⟨j, rv⟩ := p
          obtain ⟨rfl, _⟩ := e2
          obtain ⟨j, e0, hj, he0, hkq, _⟩ := findV_spec es 0 i v hfind
          have hj : i = j := by omega
          subst hj
          have hlt : i < es.length := (List.getElem?_eq_some_iff.1 he0).1
          refine ⟨_, X.obj r (.map (es'.eraseIdxIfInBounds i) clock), ?_, rfl, hr_obj h hL hblk rfl ?_, ext_obj h hL hblk rfl base, low_set hb _⟩
          · simp only [Builtin.delete_, Sem.run_bind, run_underlying hu0, Result.andThen_ok, run_getObj_map hblk, hck, e1, run_setObj_map hblk, List.getElem?_toArray, List.getElem?_cons_zero, List.getElem?_cons_succ, Sem.run_pure]
            rfl
          · have hlt' : i < es'.size := by omega
            have herase : es'.eraseIdxIfInBounds i = es'.eraseIdx i hlt' := by simp [Array.eraseIdxIfInBounds, hlt']
            rw [herase]
            refine ⟨rfl, rfl, by simp [List.length_eraseIdx, hlt]; omega, fun j a a' ha ha' => ?_⟩
            have ha'' : (es'.toList.eraseIdx i)[j]? = some a' := by
              have h0 : (es'.eraseIdx i hlt').toList[j]? = some a' := by rw [Array.getElem?_toList]; exact ha'
              rw [Array.toList_eraseIdx] at h0
              exact h0
            rw [List.getElem?_eraseIdx] at ha ha''
            split at ha
            · rename_i hji
              rw [if_pos hji] at ha''
              exact hes j a a' ha (by simpa using ha'')
            · rename_i hji
              rw [if_neg hji] at ha''
              exact hes (j + 1) a a' ha (by simpa using ha'')
        · rename_i hfind
          cases hu
          obtain ⟨rr, e1, e2⟩ := find_sim (P := P) hk hkey (er_of hsz hes) hfind
          cases rr with
          | some p => exact e2.elim
          | none =>
          have hset : X.w.heap.setIfInBounds r (.map es' clock) = X.w.heap := by
            apply Array.ext
            · simp
            · intro k hk1 hk2
              by_cases hkr : r = k
              · subst hkr
                simp only [Array.getElem_setIfInBounds_self]
                have := (Array.getElem?_eq_some_iff.1 hblk).2
                exact this.symm
              · rw [Array.getElem_setIfInBounds_ne _ hkr]
          refine ⟨X.w, X, ?_, rfl, h, .refl _ _, .refl _ _⟩
          simp only [Builtin.delete_, Sem.run_bind, run_underlying hu0, Result.andThen_ok, run_getObj_map hblk, hck, e1, run_setObj_map hblk, List.getElem?_toArray, List.getElem?_cons_zero, List.getElem?_cons_succ, Sem.run_pure, hset]
        · cases hu
      · cases hu
    · cases hu
  · cases hu

end
end Go.Ns

/- Ns, part P: going through a map. -/
namespace Go.Ns
section
variable {P : Program} {X : Cx} {H : Heap}

theorem ER.filter {es : List (V × V × Nat)} {es' : List MapEntry} (h : ER X es es') (p : Nat → Bool) : ER X (es.filter fun e => p e.2.2) (es'.filter fun e => p e.born) := by
  induction es generalizing es' with
  | nil =>
    cases es' with
    | nil => exact ⟨rfl, fun j e e' a => by simp at a⟩
    | cons _ _ => simp [ER] at h
  | cons e es ih =>
    cases es' with
    | nil => simp [ER] at h
    | cons e' es' =>
      obtain ⟨⟨h1, h2, h3⟩, ht⟩ := h.tail
      have := ih ht
      simp only [List.filter_cons, h3]
      split
      · refine ⟨by simpa using this.1, fun j a a' ha ha' => ?_⟩
        cases j with
        | zero => simp at ha ha'; subst ha ha'; exact ⟨h1, h2, h3⟩
        | succ j => exact this.2 j a a' (by simpa using ha) (by simpa using ha')
      · exact this

theorem ER.append {a b : List (V × V × Nat)} {a' b' : List MapEntry} (h : ER X a a') (k : ER X b b') : ER X (a ++ b) (a' ++ b') := by
  refine ⟨by simp [h.1, k.1], fun j e e' he he' => ?_⟩
  rw [List.getElem?_append] at he he'
  rw [h.1] at he'
  split at he
  · rename_i hj; rw [if_pos hj] at he'; exact h.2 j e e' he he'
  · rename_i hj; rw [if_neg hj] at he'; exact k.2 _ e e' he he'

/-- range over a map -/
def rgV (P : Program) (base : Nat) (H : Heap) (t : TypeId) (m : V) : Option (V × Heap) :=
  match mapT P t with
  | some _ => if base ≤ H.n then match m with
    | .nilm => some (.ptr H.n 0 0, H.new (.iter none 0 #[] 0))
    | .map id => match H.get id with
      | some (.map _ clock) => some (.ptr H.n 0 0, H.new (.iter (some id) clock #[] clock))
      | _ => none
    | _ => none
  else none
  | none => none

theorem rg_sim (h : HR X H) {base : Nat} {t : TypeId} {m u : V} {rm : Value} {H' : Heap} (hm : R X m rm) (hu : rgV P base H t m = some (u, H')) :
    ∃ ru w', (Instr.range t rm).run P X.w = .ok ru w' ∧ Eff base X H H' u ru w' := by
  have fin : ∀ (o : HObj) (ob : Obj), base ≤ H.n → ObjR X o 0 ob → Eff base X H (H.new o) (.ptr H.n 0 0) (.pointer (some ⟨X.w.heap.size, 0, none⟩)) { X.w with heap := X.w.heap.push ob } := by
    intro o ob hb ho
    refine ⟨X.push H.n ob, rfl, hr_push h ho, ext_push h _ hb, low_new hb _, .ptr _ _ _ _ rfl ?_⟩
    have : (X.push H.n ob).L H.n = .live X.w.heap.size 0 := by simp [Cx.push]
    rw [this]; exact ⟨Nat.le_refl _, fun _ => ⟨rfl, rfl⟩⟩
  unfold rgV at hu
  split at hu
  · rename_i x ht
    obtain ⟨kt, e⟩ := x
    have hu0 := mapT_spec ht
    split at hu
    · rename_i hb
      cases hm with
      | nilm =>
        simp only [Option.some.injEq, Prod.mk.injEq] at hu
        obtain ⟨rfl, rfl⟩ := hu
        exact ⟨_, _, by simp [Instr.range, run_underlying hu0], fin _ (.mapIter none 0 #[] 0) hb ⟨rfl, rfl, rfl, rfl, trivial⟩⟩
      | map id r hl =>
        simp only at hu
        split at hu
        · rename_i es clock hget
          simp only [Option.some.injEq, Prod.mk.injEq] at hu
          obtain ⟨rfl, rfl⟩ := hu
          obtain ⟨b, es', hL, rfl, hblk, hf, hsz, hes⟩ := h.mapAt hl hget
          exact ⟨_, _, by simp [Instr.range, run_underlying hu0, run_getObj_map hblk], fin _ (.mapIter (some r) clock #[] clock) hb ⟨rfl, rfl, rfl, rfl, hl⟩⟩
        · cases hu
      | _ => simp at hu
    · cases hu
  · cases hu

def MidR (X : Cx) : Option Nat → Option Nat → Prop
  | none, none => True
  | some i, some r => PLink (X.L i) 0 (fun b => r = b)
  | _, _ => False

theorem HR.iterAt (h : HR X H) {id : Nat} {p : Nat → Prop} {m : Option Nat} {since : Nat} {seen : Array Nat} {stepped : Nat} (hl : PLink (X.L id) 0 p) (hg : H.get id = some (.iter m since seen stepped)) :
    ∃ b m', X.L id = .live b 0 ∧ p b ∧ X.w.heap[b]? = some (.mapIter m' since seen stepped) ∧ MidR X m m' := by
  cases hL : X.L id with
  | pend => rw [hL] at hl; exact hl.elim
  | dead => rw [h.dead id hL] at hg; cases hg
  | live b g' =>
    obtain ⟨o, ob, ho, hb, hf, hr⟩ := h.live id b g' hL
    rw [hg] at ho; cases ho
    cases ob <;> simp only [ObjR] at hr
    obtain ⟨rfl, rfl, rfl, rfl, h4⟩ := hr
    rw [hL] at hl
    rename_i m' _ _ _
    exact ⟨b, m', rfl, hl.2 rfl, hb, by cases m <;> cases m' <;> exact h4⟩

/-- What may come next: each outcome. -/
def nxCands (es : List (V × V × Nat)) (since : Nat) (seen : Array Nat) : List (Option (V × V × Nat)) :=
  let left := es.filter fun e => !seen.contains e.2.2
  let old := left.filter fun e => decide (e.2.2 < since)
  let new := left.filter fun e => decide (e.2.2 ≥ since)
  (if old.isEmpty then [none] else []) ++ (old ++ new).map some

def nxOut (H : Heap) (id mid since : Nat) (seen : Array Nat) (clock : Nat) : Option (V × V × Nat) → V × Heap
  | none => (.tup [.bool false], H)
  | some e => (.tup [.bool true, e.1, e.2.1], H.set id (.iter (some mid) since (seen.push e.2.2) clock))

def nxV (base : Nat) (H : Heap) (it : V) : Option (List (V × Heap)) :=
  match it with
  | .ptr id 0 0 => match H.get id with
    | some (.iter none _ _ _) => some [(.tup [.bool false], H)]
    | some (.iter (some mid) since seen last) => match H.get mid with
      | some (.map es clock) =>
        if (!seen.isEmpty && !es.isEmpty && es.all fun e => decide (e.2.2 ≥ last)) = true ∨ id < base then none
        else some ((nxCands es since seen).map (nxOut H id mid since seen clock))
      | _ => none
    | _ => none
  | _ => none

theorem choose_lt {w : World} {n : Nat} (hn : 0 < n) : ∃ k w', (choose (.mapNext n)).run P w = .ok k w' ∧ k < n ∧ (w' = w ∨ w' = { w with drawn := w.drawn + 1 }) := by
  rw [run_choose]
  by_cases h : n ≤ 1
  · exact ⟨0, w, by simp [Question.forced, h], hn, .inl rfl⟩
  · exact ⟨(Question.mapNext n).cut (w.tape w.drawn (.mapNext n)), { w with drawn := w.drawn + 1 }, by simp [Question.forced, h], Nat.mod_lt _ hn, .inr rfl⟩

theorem er_all {es : List (V × V × Nat)} {es' : List MapEntry} (h : ER X es es') (p : Nat → Bool) : es'.all (fun e => p e.born) = es.all (fun e => p e.2.2) := by
  induction es generalizing es' with
  | nil =>
    cases es' with
    | nil => rfl
    | cons _ _ => simp [ER] at h
  | cons e es ih =>
    cases es' with
    | nil => simp [ER] at h
    | cons e' es' =>
      obtain ⟨⟨_, _, h3⟩, ht⟩ := h.tail
      simp [h3, ih ht]

theorem nx_sim (h : HR X H) {base : Nat} {it : V} {rit : Value} {outs : List (V × Heap)} {ty : TypeId} (hi : R X it rit) (hu : nxV base H it = some outs) :
    ∃ o ∈ outs, ∃ ru w', (Instr.next rit false ty).run P X.w = .ok ru w' ∧ Eff base X H o.2 o.1 ru w' := by
  unfold nxV at hu
  split at hu
  · rename_i id
    cases hi with
    | ptr _ _ _ a hsp hl =>
    split at hu
    · rename_i since seen stepped hget
      cases hu
      obtain ⟨b, m', hL, ⟨hb1, hb2⟩, hblk, hm⟩ := h.iterAt hl hget
      cases m' with
      | some _ => exact hm.elim
      | none =>
      refine ⟨_, List.mem_singleton.2 rfl, .tuple #[.bool false], X.w, ?_, X, rfl, h, .refl _ _, .refl _ _, .tup _ [.bool false] (.cons _ _ _ _ (.bool _) .nil)⟩
      rw [Addr.eta hsp, hb1, hb2]
      simp [Instr.next, run_getObj_iter hblk]
    · rename_i mid since seen last hget
      split at hu
      · rename_i es clock hgm
        split at hu
        · cases hu
        · rename_i hc
          cases hu
          obtain ⟨b, m', hL, ⟨hb1, hb2⟩, hblk, hm⟩ := h.iterAt hl hget
          cases m' with
          | none => exact hm.elim
          | some r =>
          have hm : PLink (X.L mid) 0 (fun b => r = b) := hm
          obtain ⟨bm, es', hLm, rfl, hblkm, hfm, hsz, hes⟩ := h.mapAt hm hgm
          have er := er_of hsz hes
          have hb : base ≤ id := by
            rcases Nat.lt_or_ge id base with q | q
            · exact absurd (.inr q) hc
            · exact q
          have hguard : (!seen.isEmpty && !es'.isEmpty && es'.all (fun e => decide (e.born ≥ last))) = false := by
            have h1 : es'.all (fun e => decide (e.born ≥ last)) = es.all (fun e => decide (e.2.2 ≥ last)) := by
              rw [← Array.all_toList]; exact er_all er fun n => decide (n ≥ last)
            have h2 : es'.isEmpty = es.isEmpty := by
              rw [← Array.isEmpty_toList]
              have := er.1
              generalize es'.toList = A at this
              cases es <;> cases A <;> simp at this ⊢
            rw [h1, h2]
            exact Bool.eq_false_iff.2 fun q => hc (.inl q)
          -- the candidates, in both
          have eleft := er.filter fun n => !seen.contains n
          have eold := eleft.filter fun n => decide (n < since)
          have enew := eleft.filter fun n => decide (n ≥ since)
          have eall := eold.append enew
          generalize hcr : ((if ((es'.filter fun e => !seen.contains e.born).filter fun e => decide (e.born < since)).isEmpty then #[none] else #[]) ++
            (((es'.filter fun e => !seen.contains e.born).filter fun e => decide (e.born < since)) ++ ((es'.filter fun e => !seen.contains e.born).filter fun e => decide (e.born ≥ since))).map some : Array (Option MapEntry)) = cr
          have hlist : cr.toList = (if ((es'.toList.filter fun e => !seen.contains e.born).filter fun e => decide (e.born < since)).isEmpty then [none] else []) ++
            (((es'.toList.filter fun e => !seen.contains e.born).filter fun e => decide (e.born < since)) ++ ((es'.toList.filter fun e => !seen.contains e.born).filter fun e => decide (e.born ≥ since))).map some := by
            rw [← hcr]
            simp only [Array.toList_append, Array.toList_map, Array.toList_filter]
            congr 1
            have : ((es'.filter fun e => !seen.contains e.born).filter fun e => decide (e.born < since)).isEmpty = ((es'.toList.filter fun e => !seen.contains e.born).filter fun e => decide (e.born < since)).isEmpty := by
              rw [← Array.isEmpty_toList]; simp only [Array.toList_filter]
            rw [this]
            split <;> rfl
          have hemp : ((es'.toList.filter fun e => !seen.contains e.born).filter fun e => decide (e.born < since)).isEmpty = ((es.filter fun e => !seen.contains e.2.2).filter fun e => decide (e.2.2 < since)).isEmpty := by
            have := eold.1
            generalize ((es'.toList.filter fun e => !seen.contains e.born).filter fun e => decide (e.born < since)) = A at this ⊢
            generalize ((es.filter fun e => !seen.contains e.2.2).filter fun e => decide (e.2.2 < since)) = B at this ⊢
            cases A <;> cases B <;> simp at this ⊢
          have hlen : cr.size = (nxCands es since seen).length := by
            rw [← Array.length_toList, hlist, hemp]
            simp only [nxCands, List.length_append, List.length_map]
            rw [eold.1, enew.1]
            split <;> rfl
          have hpos : 0 < cr.size := by
            rw [hlen]
            simp only [nxCands]
            cases hq : ((es.filter fun e => !seen.contains e.2.2).filter fun e => decide (e.2.2 < since)) with
            | nil => simp
            | cons a l => simp
          obtain ⟨k, w1, hk1, hk2, hk3⟩ := choose_lt (P := P) (w := X.w) hpos
          obtain ⟨c, hck⟩ : ∃ c, (nxCands es since seen)[k]? = some c := ⟨(nxCands es since seen)[k]'(by omega), by simp⟩
          obtain ⟨c', hck'⟩ : ∃ c', cr[k]? = some c' := ⟨cr[k], by simp⟩
          have hrel : (c = none ∧ c' = none) ∨ ∃ e e', c = some e ∧ c' = some e' ∧ R X e.1 e'.key ∧ R X e.2.1 e'.val ∧ e'.born = e.2.2 := by
            have hck2 : cr.toList[k]? = some c' := by simpa using hck'
            rw [hlist, hemp] at hck2
            simp only [nxCands] at hck
            rw [List.getElem?_append] at hck hck2
            cases hq : ((es.filter fun e => !seen.contains e.2.2).filter fun e => decide (e.2.2 < since)).isEmpty
            · simp only [hq, Bool.false_eq_true, if_false, List.length_nil, Nat.not_lt_zero, Nat.sub_zero, List.getElem?_map, Option.map_eq_some_iff] at hck hck2
              obtain ⟨e, he, rfl⟩ := hck
              obtain ⟨e', he', rfl⟩ := hck2
              exact .inr ⟨e, e', rfl, rfl, eall.2 k e e' he he'⟩
            · simp only [hq, if_true, List.length_singleton] at hck hck2
              split at hck
              · rename_i hk0
                rw [if_pos hk0] at hck2
                have : k = 0 := by omega
                subst this
                simp at hck hck2
                exact .inl ⟨hck.symm, hck2.symm⟩
              · rename_i hk0
                rw [if_neg hk0] at hck2
                simp only [List.getElem?_map, Option.map_eq_some_iff] at hck hck2
                obtain ⟨e, he, rfl⟩ := hck
                obtain ⟨e', he', rfl⟩ := hck2
                exact .inr ⟨e, e', rfl, rfl, eall.2 _ e e' he he'⟩
          -- the world behind the draw
          obtain ⟨X1, hX1, hh1, hext1, hL1, hb1', hbm1⟩ : ∃ X1 : Cx, X1.w = w1 ∧ HR X1 H ∧ Ext base X X1 ∧ X1.L = X.L ∧ X1.w.heap[b]? = some (.mapIter (some r) since seen last) ∧ X1.w.heap[r]? = some (.map es' clock) := by
            rcases hk3 with rfl | rfl
            · exact ⟨X, rfl, h, .refl _ _, rfl, hblk, hblkm⟩
            · exact ⟨X.drew, rfl, hr_drew h, ext_drew X base, rfl, hblk, hblkm⟩
          refine ⟨nxOut H id mid since seen clock c, List.mem_map.2 ⟨c, List.mem_of_getElem? hck, rfl⟩, ?_⟩
          rw [Addr.eta hsp, hb1, hb2]
          rcases hrel with ⟨rfl, rfl⟩ | ⟨e, e', rfl, rfl, r1, r2, r3⟩
          · refine ⟨.tuple #[.bool false], w1, ?_, X1, hX1, hh1, hext1, .refl _ _, .tup _ [.bool false] (.cons _ _ _ _ (.bool _) .nil)⟩
            simp only [Instr.next, Sem.run_bind, run_getObj_iter hblk, Result.andThen_ok, run_getObj_map hblkm, hguard, Bool.false_eq_true, if_false]
            rw [hcr, hk1]
            simp only [Result.andThen_ok, hck', Sem.run_pure]
          · refine ⟨.tuple #[.bool true, e'.key, e'.val], _, ?_, X1.obj b (.mapIter (some r) since (seen.push e'.born) clock), rfl, hr_obj hh1 (by rw [hL1]; exact hL) hb1' rfl ?_, hext1.trans (ext_obj hh1 (by rw [hL1]; exact hL) hb1' rfl base), low_set hb _, ?_⟩
            · simp only [Instr.next, Sem.run_bind, run_getObj_iter hblk, Result.andThen_ok, run_getObj_map hblkm, hguard, Bool.false_eq_true, if_false]
              rw [hcr, hk1]
              subst hX1
              simp only [Result.andThen_ok, hck', Sem.run_bind, run_setObj_iter hb1', Sem.run_pure]
              rfl
            · exact ⟨rfl, rfl, by rw [r3], rfl, by rw [hL1]; exact hm⟩
            · have e2 := hext1.trans (ext_obj hh1 (by rw [hL1]; exact hL) hb1' (ob' := .mapIter (some r) since (seen.push e'.born) clock) rfl base)
              exact .tup _ [.bool true, e'.key, e'.val] (.cons _ _ _ _ (.bool _) (.cons _ _ _ _ (R.mono e2 r1) (.cons _ _ _ _ (R.mono e2 r2) .nil)))
      · cases hu
    · cases hu
  · cases hu

/-- entry -/
def enV (H : Heap) (it : V) : Option V :=
  match it with
  | .ptr id 0 0 => match H.get id with
    | some (.iter (some mid) _ seen stepped) => match seen.back?, H.get mid with
      | some stamp, some (.map es clock) => if clock = stepped then (es.find? fun e => e.2.2 == stamp).map fun e => .tup [e.1, e.2.1] else none
      | _, _ => none
    | _ => none
  | _ => none

theorem er_find {es : List (V × V × Nat)} {es' : List MapEntry} (h : ER X es es') (stamp : Nat) {e : V × V × Nat} (he : es.find? (fun e => e.2.2 == stamp) = some e) :
    ∃ e', es'.find? (fun e => e.born == stamp) = some e' ∧ R X e.1 e'.key ∧ R X e.2.1 e'.val := by
  induction es generalizing es' with
  | nil => simp at he
  | cons a es ih =>
    cases es' with
    | nil => simp [ER] at h
    | cons a' es' =>
      obtain ⟨⟨h1, h2, h3⟩, ht⟩ := h.tail
      simp only [List.find?_cons] at he ⊢
      rw [h3]
      split at he
      · cases he; exact ⟨a', rfl, h1, h2⟩
      · exact ih ht he

theorem en_sim (h : HR X H) {it u : V} {rit : Value} (hi : R X it rit) (hu : enV H it = some u) : ∃ ru, (Instr.entry rit).run P X.w = .ok ru X.w ∧ R X u ru := by
  unfold enV at hu
  split at hu
  · rename_i id
    cases hi with
    | ptr _ _ _ a hsp hl =>
    split at hu
    · rename_i mid since seen stepped hget
      split at hu
      · rename_i stamp es clock hback hgm
        split at hu
        · rename_i hc
          subst hc
          simp only [Option.map_eq_some_iff] at hu
          obtain ⟨e, he, rfl⟩ := hu
          obtain ⟨b, m', hL, ⟨hb1, hb2⟩, hblk, hm⟩ := h.iterAt hl hget
          cases m' with
          | none => exact hm.elim
          | some r =>
          have hm : PLink (X.L mid) 0 (fun b => r = b) := hm
          obtain ⟨bm, es', hLm, rfl, hblkm, hfm, hsz, hes⟩ := h.mapAt hm hgm
          obtain ⟨e', he', r1, r2⟩ := er_find (er_of hsz hes) stamp he
          have he2 : es'.find? (fun e => e.born == stamp) = some e' := by rw [← Array.find?_toList]; exact he'
          refine ⟨.tuple #[e'.key, e'.val], ?_, R.pair r1 r2⟩
          rw [Addr.eta hsp, hb1, hb2]
          simp [Instr.entry, run_getObj_iter hblk, hback, run_getObj_map hblkm, he2]
        · cases hu
      · cases hu
    · cases hu
  · cases hu

end
end Go.Ns

/- Ns, part Q: an operation, as a demand on what comes behind it. -/
namespace Go.Ns

inductive Res where
  | ret (v : V)
  | pan (v : V)

def ResR (X : Cx) : Ending → Res → Prop
  | .returned rv, .ret v => R X v rv
  | .panicked ch, .pan v => ∃ rv, ch = [{ v := rv, recovered := false }] ∧ R X v rv
  | _, _ => False

/-- A call of function f, of abstract values, in an abstract heap. Ids below 'base' stay as they are. -/
def NCall (P : Program) (base : Nat) (f : FuncId) (args : List V) (H : Heap) (Q : Res → Heap → Prop) : Prop :=
  ∀ (X : Cx) (rargs : List Value), HR X H → RL X args rargs → base ≤ H.n →
    Calls P f rargs.toArray X.w fun e w' => ∃ r H' X', X'.w = w' ∧ ResR X' e r ∧ Q r H' ∧ HR X' H' ∧ Ext base X X' ∧ Low base H H'

theorem NCall.mono {P : Program} {base : Nat} {f : FuncId} {args : List V} {H : Heap} {Q Q' : Res → Heap → Prop} (h : NCall P base f args H Q) (hq : ∀ r H', Q r H' → Q' r H') : NCall P base f args H Q' :=
  fun X rargs h1 h2 h3 => (h X rargs h1 h2 h3).mono fun _ _ ⟨r, H', X', a, b, c, d⟩ => ⟨r, H', X', a, b, hq _ _ c, d⟩

def ρV (σ : Nat → V) : Operand → V
  | .tmp t => σ t
  | .const v => vconst v
  | .global _ => .undef
  | .func f => .fn f []

abbrev Ds := List (FuncId × List V)

/-- Has the program a body for it, and is it entered by a plain call? -/
def fnT (P : Program) (f : FuncId) : Bool :=
  match P.funcs[f]? with
  | some fn => fn.name != "runtime.NumGoroutine" && fn.body.isSome
  | none => false

def callK (K KP : V → Heap → Prop) : Res → Heap → Prop
  | .ret v, H => K v H
  | .pan v, H => KP v H

def sbV (P : Program) (base : Nat) (H : Heap) (s d : TypeId) (x : V) : Option (V × Heap) :=
  match x, slcT P d with
  | .str b, some (e, 1, _) => if strT P s = true ∧ iknT P e = some .u8 ∧ base ≤ H.n ∧ 0 < b.size then some (.hsl H.n 0 0 b.size 1 false b.size, H.new (.cells 0 (b.data.toList.map fun c => V.int .u8 c.toNat))) else none
  | _, _ => none

def optK (o : Option V) (K : V → Prop) : Prop := match o with | some v => K v | none => False
def optKH (o : Option (V × Heap)) (K : V → Heap → Prop) : Prop := match o with | some (v, H) => K v H | none => False
def optH (o : Option Heap) (K : V → Heap → Prop) : Prop := match o with | some H => K (.tup []) H | none => False

def cpV (P : Program) (t : TypeId) (x : V) : Option V :=
  match x with
  | .nils => (slcT P t).map fun _ => .int .i64 0
  | .fsl true n _ => (slcT P t).map fun _ => .int .i64 n
  | .hsl _ _ _ _ _ true c => (slcT P t).map fun _ => .int .i64 c
  | _ => none

def bltW (P : Program) (base : Nat) (H : Heap) (b : Builtin) (ts : List TypeId) (args : List V) (K : V → Heap → Prop) : Prop :=
  match b, ts, args with
  | .append, [t, t1], [s, x] => optKH (apV P base H t t1 s x) K
  | .len, [t], [x] => optK (lnV P H t x) fun v => K v H
  | .cap, [t], [x] => optK (cpV P t x) fun v => K v H
  | .min, _, xs => optK (mmV false xs) fun v => K v H
  | .max, _, xs => optK (mmV true xs) fun v => K v H
  | .clear, [t], [x] => optH (clV P base H t x) K
  | .delete, [t, _], [m, k] => optH (dlV P base H t m k) K
  | _, _, _ => False

def cvW (P : Program) (base : Nat) (H : Heap) (s d : TypeId) (x : V) (K : V → Heap → Prop) : Prop :=
  match cvV P s d x with
  | some v => K v H
  | none => match bstV P H s d x with
    | some v => K v H
    | none => optKH (sbV P base H s d x) K

/-- The floats' bits, by Go's own library. -/
def extV (P : Program) (g : FuncId) (args : List V) : Option V :=
  match P.funcs[g]? with
  | some fn => if fn.body.isNone = true ∧ fn.origin = "" then
      (if fn.name = "math.Float64bits" then (match args with | [.flt .f64 b] => some (.int .u64 b) | _ => none)
      else if fn.name = "math.Float64frombits" then (match args with | [.int .u64 n] => some (.flt .f64 n.toNat) | _ => none) else none)
    else none
  | none => none

theorem extV_no {P : Program} {g : FuncId} {args : List V} (h : fnT P g = true) : extV P g args = none := by
  unfold fnT at h
  unfold extV
  cases hf : P.funcs[g]? with
  | none => rfl
  | some fn =>
    rw [hf] at h
    simp only [Bool.and_eq_true] at h ⊢
    rw [if_neg]
    rintro ⟨h1, _⟩
    have h2 := h.2
    cases hb : fn.body <;> simp [hb] at h1 h2

/-- A function's call. -/
def callW (P : Program) (base : Nat) (g : FuncId) (args : List V) (H : Heap) (K KP : V → Heap → Prop) : Prop :=
  match extV P g args with
  | some v => K v H
  | none => fnT P g = true ∧ NCall P base g args H (callK K KP)

/-- What a function value's call is given: its bound arguments, the call's, what it holds. -/
def callArgs (args : List V) : List V → List V
  | .tup fs :: cap => fs ++ (args ++ cap)
  | cap => args ++ cap

theorem callArgs_no {args cap : List V} (h : hdT cap = false) : callArgs args cap = args ++ cap := by
  unfold callArgs
  split
  · simp [hdT] at h
  · rfl

/-- One operation. K: what it yields; KD: what is deferred; KP: it panics. -/
def opW (P : Program) (base : Nat) (o : Oper) (ρ : Operand → V) (H : Heap) (K : V → Heap → Prop) (KD : FuncId → List V → Prop) (KP : V → Heap → Prop) : Prop :=
  match o.op with
  | .move x | .assign x => K (ρ x) H
  | .pick c a b => match ρ c with | .bool true => K (ρ a) H | .bool false => K (ρ b) H | _ => False
  | .alloc t => optKH (alV P H t) K
  | .box _ x => optKH (bxV H (ρ x)) K
  | .build t ps => optK (bdV P t (ps.toList.map fun p => (p.1, ρ p.2))) fun v => K v H
  | .buildSlice t n ps => optK (bsV P t n (ps.toList.map fun p => (p.1, ρ p.2))) fun v => K v H
  | .load t a => optK (ldV P H t (ρ a)) fun v => K v H
  | .store t a x => optH (stoV P base H t (ρ a) (ρ x)) K
  | .nilCheck x => match ρ x with | .ptr id g o => K (.ptr id g o) H | .fptr cs => K (.fptr cs) H | _ => False
  | .binOp op t x y _ => optK (binV P op t (ρ x) (ρ y)) fun v => K v H
  | .unOp op _ x => optK (unV op (ρ x)) fun v => K v H
  | .convert s d x => cvW P base H s d (ρ x) K
  | .makeInterface t x => optK (miV P t (ρ x)) fun v => K v H
  | .makeFunc (.func f) first cap => if first.isEmpty then hdT (cap.toList.map ρ) = false ∧ K (.fn f (cap.toList.map ρ)) H else K (.fn f (.tup (first.toList.map ρ) :: cap.toList.map ρ)) H
  | .makeMap _ none => K (mmpV H).1 (mmpV H).2
  | .makeSlice t l c => optKH (mkV P base H t (ρ l) (ρ c)) K
  | .slice t x lo hi mx => optK (slV P H t (ρ x) (lo.map ρ) (hi.map ρ) (mx.map ρ)) fun v => K v H
  | .fieldAddr t x i => optK (faV P t (ρ x) i) fun v => K v H
  | .field t x i => optK (fdV P t (ρ x) i) fun v => K v H
  | .indexAddr t x i => optK (iaV P t (ρ x) (ρ i)) fun v => K v H
  | .index t x i => optK (ixV P t (ρ x) (ρ i)) fun v => K v H
  | .lookup t x i ok => optK (lkV P H t (ρ x) (ρ i) ok) fun v => K v H
  | .mapUpdate t m k x => optH (muV P base H t (ρ m) (ρ k) (ρ x)) K
  | .insert t m k x => optH (muV P base H t (ρ m) (ρ k) (ρ x)) K
  | .range t x => optKH (rgV P base H t (ρ x)) K
  | .next it false => match nxV base H (ρ it) with | some outs => ∀ o ∈ outs, K o.1 o.2 | none => False
  | .entry it => optK (enV H (ρ it)) fun v => K v H
  | .typeAssert x _ t true => optK (taV P (ρ x) t) fun v => K v H
  | .extract x i => optK (exV (ρ x) i) fun v => K v H
  | .call { callee := .builtin b, args, argTypes } => bltW P base H b argTypes.toList (args.toList.map ρ) K
  | .call { callee := .value f, args, .. } => match ρ f with
    | .fn g cap => callW P base g (callArgs (args.toList.map ρ) cap) H K KP
    | _ => False
  | .defer { callee := .value f, args, .. } => match ρ f with
    | .fn g cap => hdT cap = false ∧ args.isEmpty = true ∧ KD g cap
    | _ => False
  | .panic x => match ρ x with | .ifc t v => KP (.ifc t v) H | _ => False
  | _ => False

section
variable {P : Program} {X : Cx} {H : Heap}

theorem RL.map_op {ρ : Operand → V} {r : Operand → Value} (h : ∀ x, R X (ρ x) (r x)) : ∀ l : List Operand, RL X (l.map ρ) (l.map r)
  | [] => .nil
  | x :: l => .cons _ _ _ _ (h x) (RL.map_op h l)

theorem PL.map_op {ρ : Operand → V} {r : Operand → Value} (h : ∀ x, R X (ρ x) (r x)) : ∀ l : List (Nat × Operand), PL X (l.map fun p => (p.1, ρ p.2)) (l.map fun p => (p.1, r p.2))
  | [] => .nil
  | (_, x) :: l => .cons _ _ _ _ _ (h x) (PL.map_op h l)

theorem OR.map_op {ρ : Operand → V} {r : Operand → Value} (h : ∀ x, R X (ρ x) (r x)) (o : Option Operand) : OR X (o.map ρ) (o.map r) := by
  cases o with
  | none => exact .none
  | some x => exact .some _ _ (h x)

theorem optK_some {o : Option V} {K : V → Prop} (h : optK o K) : ∃ v, o = some v ∧ K v := by cases o with | none => exact h.elim | some v => exact ⟨v, rfl, h⟩
theorem optKH_some {o : Option (V × Heap)} {K : V → Heap → Prop} (h : optKH o K) : ∃ v H, o = some (v, H) ∧ K v H := by cases o with | none => exact h.elim | some v => exact ⟨v.1, v.2, rfl, h⟩
theorem optH_some {o : Option Heap} {K : V → Heap → Prop} (h : optH o K) : ∃ H, o = some H ∧ K (.tup []) H := by cases o with | none => exact h.elim | some v => exact ⟨v, rfl, h⟩

theorem R.unit (X : Cx) : R X (.tup []) (.tuple #[]) := .tup [] [] .nil

theorem freeze_push (w : World) (c : Array Value) (e : TypeId) :
    ({ w with heap := w.heap.push (.cells c e (0, 0)) } : World).freeze ⟨w.heap.size, c.size, none⟩ 1 = { w with heap := w.heap.push (.cells c e (c.size, c.size + 1)) } := by
  unfold World.freeze
  rw [if_neg (by omega)]
  congr 1
  apply Array.ext
  · simp
  · intro k h1 h2
    simp only [Array.getElem_modify]
    split
    · rename_i hk
      subst hk
      simp
    · rename_i hk
      have : k < w.heap.size := by simp at h2; omega
      rw [Array.getElem_push_lt this, Array.getElem_push_lt this]

/-- []byte(s) -/
theorem sb_sim (h : HR X H) {base : Nat} {s d : TypeId} {x u : V} {rx : Value} {H' : Heap} (hx : R X x rx) (hu : sbV P base H s d x = some (u, H')) :
    ∃ ru w', (convert s d rx).run P X.w = .ok ru w' ∧ Eff base X H H' u ru w' := by
  unfold sbV at hu
  split at hu
  · rename_i b e by_ hd
    obtain ⟨_, hu0, _⟩ := slcT_spec hd
    split at hu
    · rename_i hc
      obtain ⟨hs, he, hb, hpos⟩ := hc
      simp only [Option.some.injEq, Prod.mk.injEq] at hu
      obtain ⟨rfl, rfl⟩ := hu
      cases hx
      have hs' : P.underlying s = some .string := by unfold strT at hs; split at hs <;> simp_all
      have he' := iknT_spec he
      have hlen : (b.data.toList.map fun c => Value.int .u8 c.toNat).length = b.size := by simp
      generalize hcap : (Question.appendCap b.size 0 e).cut (X.w.tape X.w.drawn (.appendCap b.size 0 e)) = cap
      have hge : b.size ≤ cap := by rw [← hcap]; simp [Question.cut]
      generalize hc : ((b.data.map fun c => Value.int .u8 c.toNat) ++ Array.replicate (cap - b.size) (Value.int .u8 0)) = c
      have hcs : c.size = cap := by rw [← hc]; simp; have : b.data.size = b.size := rfl; omega
      have hcl : ∀ j, j < b.size → c[j]? = (b.data.toList.map fun c => Value.int .u8 c.toNat)[j]? := by
        intro j hj
        rw [← hc, Array.getElem?_append, if_pos (by simpa using hj)]
        simp
      have hd := hr_drew h
      have hrl : ∀ (l : List UInt8), RL X.drew (l.map fun c => V.int .u8 c.toNat) (l.map fun c => Value.int .u8 c.toNat) := by
        intro l; induction l with
        | nil => exact .nil
        | cons a l ih => exact .cons _ _ _ _ (.int _ _) ih
      have hob : ObjR X.drew (.cells 0 (b.data.toList.map fun c => V.int .u8 c.toNat)) 0 (.cells c e (c.size, c.size + 1)) := by
        refine ⟨rfl, by rw [List.all_map]; exact List.all_eq_true.2 fun _ _ => rfl, by simp; have : b.data.size = b.size := rfl; omega, fun j v rv h1 h2 => ?_, fun o ho => by simp; omega⟩
        obtain ⟨rv', q1, q2⟩ := (hrl _).get j h1
        have hj : j < b.size := by
          have := (List.getElem?_eq_some_iff.1 h1).1
          simp at this; have : b.data.size = b.size := rfl; omega
        rw [hcl j hj, q1] at h2
        cases h2; exact q2
      refine ⟨.slice (some ⟨X.w.heap.size, 0, none⟩) b.size cap, _, ?_, X.drew.push H.n (.cells c e (c.size, c.size + 1)), rfl, hr_push hd hob, (ext_drew X base).trans (ext_push hd _ hb), low_new hb _, ?_⟩
      · simp only [convert, run_underlying hs', run_underlying hu0, run_underlying he', Sem.run_bind, Result.andThen_ok, Conv.stringToBytes, run_choose, Question.forced, Bool.false_eq_true, if_false, hcap, newRow, run_newObj, Sem.run_pure]
        rw [hc]
        simp only [markStringish, Sem.run_bind, run_shape, Result.andThen_ok]
        have hsh := shape_new X.drew.w c e
        have hsh' : World.shape? { heap := X.w.heap.push (.cells c e), tape := X.w.tape, drawn := X.w.drawn + 1, os := X.w.os, output := X.w.output } X.w.heap.size = some (e, c.size) := hsh
        simp only [hsh', run_freeze, Result.andThen_ok]
        have := freeze_push X.drew.w c e
        have this' : World.freeze { heap := X.w.heap.push (.cells c e), tape := X.w.tape, drawn := X.w.drawn + 1, os := X.w.os, output := X.w.output } ⟨X.w.heap.size, c.size, none⟩ 1 = (X.drew.push H.n (.cells c e (c.size, c.size + 1))).w := this
        rw [this']
      · refine .hsl _ _ _ _ _ _ _ _ _ rfl hge (by simp) hge ?_
        have : (X.drew.push H.n (.cells c e (c.size, c.size + 1))).L H.n = .live X.w.heap.size 0 := by simp [Cx.push, Cx.drew]
        rw [this]
        refine ⟨Nat.le_refl _, fun _ => ⟨rfl, rfl, e, c.size, ?_, by omega⟩⟩
        show World.shape? { X.drew.w with heap := X.drew.w.heap.push (.cells c e (c.size, c.size + 1)) } X.drew.w.heap.size = _
        simp [World.shape?]
    · cases hu
  · cases hu

theorem cp_sim {t ty : TypeId} {x u : V} {rx : Value} (hx : R X x rx) (hu : cpV P t x = some u) : ∃ ru, (Builtin.cap_ #[t] ty #[rx]).run P X.w = .ok ru X.w ∧ R X u ru := by
  have sl : ∀ {a n c}, (slcT P t).isSome = true → (Builtin.cap_ #[t] ty #[.slice a n c]).run P X.w = .ok (.int .i64 c) X.w := by
    intro a n c hs
    obtain ⟨⟨e, s, b⟩, hs⟩ := Option.isSome_iff_exists.1 hs
    obtain ⟨i, hu0, _⟩ := slcT_spec hs
    simp [Builtin.cap_, run_underlying hu0, goInt]
  unfold cpV at hu
  split at hu
  · simp only [Option.map_eq_some_iff] at hu
    obtain ⟨y, hy, rfl⟩ := hu
    cases hx; exact ⟨_, sl (by simp [hy]), .int _ _⟩
  · simp only [Option.map_eq_some_iff] at hu
    obtain ⟨y, hy, rfl⟩ := hu
    cases hx with
    | fsl _ _ _ a rs cap _ _ _ _ hx => rw [hx rfl]; exact ⟨_, sl (by simp [hy]), .int _ _⟩
    | emp0 a => exact ⟨_, sl (by simp [hy]), .int _ _⟩
  · simp only [Option.map_eq_some_iff] at hu
    obtain ⟨y, hy, rfl⟩ := hu
    cases hx with
    | hsl _ _ _ _ _ _ _ a cap _ _ hx => rw [hx rfl]; exact ⟨_, sl (by simp [hy]), .int _ _⟩
  · cases hu

end
end Go.Ns

/- Ns, part R: an operation keeps what is demanded. -/
namespace Go.Ns
section
variable {P : Program} {X : Cx} {H : Heap}

theorem wp_value {o : Oper} {a : Act} {w w' : World} {next : Act → World → Prop} {Q : Exit → Act → World → Prop} {rv : Value} (h : (execOp a.eval o).run P w = .ok (.value rv) w') (hn : next (a.put o.dst rv) w') : o.wp P a w next Q := by
  unfold Oper.wp; rw [h]; exact hn
theorem wp_skip_ {o : Oper} {a : Act} {w w' : World} {next : Act → World → Prop} {Q : Exit → Act → World → Prop} (h : (execOp a.eval o).run P w = .ok .skip w') (hn : next (a.put o.dst undef) w') : o.wp P a w next Q := by
  unfold Oper.wp; rw [h]; exact hn
theorem wp_panic_ {o : Oper} {a : Act} {w w' : World} {next : Act → World → Prop} {Q : Exit → Act → World → Prop} {v : Value} (h : (execOp a.eval o).run P w = .halt (.panic v) w') (hn : Q (.panic [{ v, recovered := false }]) a w') : o.wp P a w next Q := by
  unfold Oper.wp; rw [h]; exact hn
theorem wp_defer_ {o : Oper} {a : Act} {w w' : World} {next : Act → World → Prop} {Q : Exit → Act → World → Prop} {d : Deferred} (h : (execOp a.eval o).run P w = .ok (.defer d) w') (hn : next ({ a with defers := d :: a.defers }.put o.dst undef) w') : o.wp P a w next Q := by
  unfold Oper.wp; rw [h]; exact hn
theorem wp_enter_ {o : Oper} {a : Act} {w w' : World} {next : Act → World → Prop} {Q : Exit → Act → World → Prop} {f : FuncId} {args : Array Value} (h : (execOp a.eval o).run P w = .ok (.enter f args) w')
    (hn : Calls P f args w' fun
      | .returned v, w'' => next (a.put o.dst v) w''
      | .panicked chain, w'' => Q (.panic chain) a w''
      | .outgrown, _ => LetsOut Q) : o.wp P a w next Q := by
  unfold Oper.wp; rw [h]; exact hn

theorem run_enter {f : FuncId} {args : Array Value} {w : World} (h : fnT P f = true) : (callFunc f args).run P w = .ok (.enter f args) w := by
  unfold fnT at h
  split at h
  · rename_i fn hf
    simp only [Bool.and_eq_true, bne_iff_ne, ne_eq] at h
    have hb : fn.body.isNone = false := by cases hq : fn.body <;> simp [hq] at h ⊢
    have hn : (fn.name == "runtime.NumGoroutine") = false := by simpa using h.1
    simp only [callFunc, Sem.run_bind, run_program, Result.andThen_ok, hf, hn, hb, Bool.false_eq_true, if_false, Sem.run_pure]
  · cases h

theorem ext_sim {P : Program} {X : Cx} {g : FuncId} {args : List V} {rargs : List Value} {v : V} (hl : RL X args rargs) (hv : extV P g args = some v) : ∃ rv, (callFunc g rargs.toArray).run P X.w = .ok (.value rv) X.w ∧ R X v rv := by
  unfold extV at hv
  split at hv
  · rename_i fn hf
    split at hv
    · rename_i hb
      obtain ⟨hb, ho⟩ := hb
      have n0 : Extern.allNextRows.lookup "" = none := by kernel_rfl
      split at hv
      · rename_i hn
        have h1 : Extern.findNext fn = none := by
          have n1 : Extern.allNextRows.lookup "math.Float64bits" = none := by kernel_rfl
          simp only [Extern.findNext, hn, ho, n0, n1]; rfl
        have h2 : Extern.find fn = some Extern.MathFloatBits.float64bits := by
          have n1 : Extern.allGenericRows.lookup "math.Float64bits" = none := by kernel_rfl
          have n2 : Extern.allTypedRows.lookup "math.Float64bits" = none := by kernel_rfl
          have n3 : Extern.allRows.lookup "math.Float64bits" = some Extern.MathFloatBits.float64bits := by kernel_rfl
          simp only [Extern.find, hn, n1, n2, n3]; rfl
        split at hv
        · rename_i b
          cases hv
          cases hl with
          | cons _ r _ _ hr hl =>
          cases hl
          cases hr
          exact ⟨.int .u64 b, by rw [run_callFunc_extern hf (by rw [hn]; decide) hb h1 h2]; rfl, .int _ _⟩
        · cases hv
      · split at hv
        · rename_i hn
          have h1 : Extern.findNext fn = none := by
            have n1 : Extern.allNextRows.lookup "math.Float64frombits" = none := by kernel_rfl
            simp only [Extern.findNext, hn, ho, n0, n1]; rfl
          have h2 : Extern.find fn = some Extern.MathFloatBits.float64frombits := by
            have n1 : Extern.allGenericRows.lookup "math.Float64frombits" = none := by kernel_rfl
            have n2 : Extern.allTypedRows.lookup "math.Float64frombits" = none := by kernel_rfl
            have n3 : Extern.allRows.lookup "math.Float64frombits" = some Extern.MathFloatBits.float64frombits := by kernel_rfl
            simp only [Extern.find, hn, n1, n2, n3]; rfl
          split at hv
          · rename_i n
            cases hv
            cases hl with
            | cons _ r _ _ hr hl =>
            cases hl
            cases hr
            exact ⟨.float .f64 n.toNat, by rw [run_callFunc_extern hf (by rw [hn]; decide) hb h1 h2]; rfl, .flt _ _⟩
          · cases hv
        · cases hv
    · cases hv
  · cases hv

theorem opW_sound {base : Nat} {o : Oper} {ρ : Operand → V} {a : Act} (h : HR X H) (hb : base ≤ H.n) (hρ : ∀ x, R X (ρ x) (a.eval x)) {K : V → Heap → Prop} {KD : FuncId → List V → Prop} {KP : V → Heap → Prop}
    (hw : opW P base o ρ H K KD KP) {next : Act → World → Prop} {Q : Exit → Act → World → Prop}
    (hK : ∀ v H' X' rv, HR X' H' → Ext base X X' → Low base H H' → R X' v rv → K v H' → next (a.put o.dst rv) X'.w)
    (hKD : ∀ f cap rcap, RL X cap rcap → KD f cap → next ({ a with defers := { target := .fn (.func f) rcap.toArray, args := #[] } :: a.defers }.put o.dst undef) X.w)
    (hKP : ∀ v H' X' rv, HR X' H' → Ext base X X' → Low base H H' → R X' v rv → KP v H' → Q (.panic [{ v := rv, recovered := false }]) a X'.w) :
    o.wp P a X.w next Q := by
  have val : ∀ {u : V} {s : Sem Value}, (∃ ru, s.run P X.w = .ok ru X.w ∧ R X u ru) → (execOp a.eval o = do pure (.value (← s))) → K u H → o.wp P a X.w next Q := by
    rintro u s ⟨ru, h1, h2⟩ he hk
    exact wp_value (by rw [he]; simp [h1]) (hK u H X ru h (.refl _ _) (.refl _ _) h2 hk)
  have eff : ∀ {u : V} {H' : Heap} {s : Sem Value}, (∃ ru w', s.run P X.w = .ok ru w' ∧ Eff base X H H' u ru w') → (execOp a.eval o = do pure (.value (← s))) → K u H' → o.wp P a X.w next Q := by
    rintro u H' s ⟨ru, w', h1, X', rfl, h2, h3, h4, h5⟩ he hk
    exact wp_value (by rw [he]; simp [h1]) (hK u H' X' ru h2 h3 h4 h5 hk)
  have unit : ∀ {H' : Heap} {s : Sem Unit}, (∃ w' X', s.run P X.w = .ok () w' ∧ X'.w = w' ∧ HR X' H' ∧ Ext base X X' ∧ Low base H H') → (execOp a.eval o = do s; pure .skip) → K (.tup []) H' → o.wp P a X.w next Q := by
    rintro H' s ⟨w', X', h1, rfl, h2, h3, h4⟩ he hk
    exact wp_skip_ (by rw [he]; simp [h1]) (hK _ H' X' _ h2 h3 h4 (R.unit _) hk)
  unfold opW at hw
  split at hw
  · rename_i x ho
    exact wp_value (rv := a.eval x) (by unfold execOp; rw [ho]; rfl) (hK _ H X _ h (.refl _ _) (.refl _ _) (hρ x) hw)
  · rename_i x ho
    exact wp_value (rv := a.eval x) (by unfold execOp; rw [ho]; rfl) (hK _ H X _ h (.refl _ _) (.refl _ _) (hρ x) hw)
  · rename_i c x y ho
    have hc := hρ c
    split at hw
    · rename_i hq
      rw [hq] at hc
      generalize hec : a.eval c = ec at hc
      cases hc
      exact wp_value (rv := a.eval x) (by unfold execOp; rw [ho]; simp [hec, asBool]) (hK _ H X _ h (.refl _ _) (.refl _ _) (hρ x) hw)
    · rename_i hq
      rw [hq] at hc
      generalize hec : a.eval c = ec at hc
      cases hc
      exact wp_value (rv := a.eval y) (by unfold execOp; rw [ho]; simp [hec, asBool]) (hK _ H X _ h (.refl _ _) (.refl _ _) (hρ y) hw)
    · exact hw.elim
  · rename_i t ho
    obtain ⟨v, H', h1, h2⟩ := optKH_some hw
    exact eff (al_sim h hb h1) (by unfold execOp; rw [ho]) h2
  · rename_i t x ho
    obtain ⟨v, H', h1, h2⟩ := optKH_some hw
    exact eff (bx_sim h hb (hρ x) h1) (by unfold execOp; rw [ho]) h2
  · rename_i t ps ho
    obtain ⟨v, h1, h2⟩ := optK_some hw
    obtain ⟨ru, g1, g2⟩ := bd_sim (P := P) (X := X) (PL.map_op hρ ps.toList) h1
    have e : (ps.map fun (p : Nat × Operand) => (p.1, a.eval p.2)) = (ps.toList.map fun p => (p.1, a.eval p.2)).toArray := by apply Array.ext'; simp
    exact val ⟨ru, by rw [← e] at g1; exact g1 _, g2⟩ (by unfold execOp; rw [ho]) h2
  · rename_i t n ps ho
    obtain ⟨v, h1, h2⟩ := optK_some hw
    have := bs_sim (P := P) h (base := base) (PL.map_op hρ ps.toList) h1
    have e : (ps.map fun (p : Nat × Operand) => (p.1, a.eval p.2)) = (ps.toList.map fun p => (p.1, a.eval p.2)).toArray := by apply Array.ext'; simp
    rw [← e] at this
    exact eff this (by unfold execOp; rw [ho]) h2
  · rename_i t x ho
    obtain ⟨v, h1, h2⟩ := optK_some hw
    exact val (ld_sim h (hρ x) h1) (by unfold execOp; rw [ho]) h2
  · rename_i t x y ho
    obtain ⟨H', h1, h2⟩ := optH_some hw
    exact unit (sto_sim h (hρ x) (hρ y) h1) (by unfold execOp; rw [ho]) h2
  · rename_i x ho
    have hx := hρ x
    split at hw
    · rename_i id g off hq
      rw [hq] at hx
      generalize hec : a.eval x = ec at hx
      cases hx with
      | ptr _ _ _ ad hsp hl =>
      exact wp_value (rv := .pointer (some ad)) (by unfold execOp; rw [ho]; simp [hec]) (hK _ H X _ h (.refl _ _) (.refl _ _) (.ptr _ _ _ ad hsp hl) hw)
    · rename_i cs hq
      rw [hq] at hx
      generalize hec : a.eval x = ec at hx
      cases hx with
      | fptr _ ad rs h1 h2 h3 h4 h5 =>
      exact wp_value (rv := .pointer (some ad)) (by unfold execOp; rw [ho]; simp [hec]) (hK _ H X _ h (.refl _ _) (.refl _ _) (.fptr _ ad rs h1 h2 h3 h4 h5) hw)
    · exact hw.elim
  · rename_i op t x y yt ho
    obtain ⟨v, h1, h2⟩ := optK_some hw
    exact val (bin_sim (ox := x) (oy := y) (hρ x) (hρ y) h1) (by unfold execOp; rw [ho]) h2
  · rename_i op t x ho
    obtain ⟨v, h1, h2⟩ := optK_some hw
    exact val (un_sim (hρ x) h1) (by unfold execOp; rw [ho]) h2
  · rename_i s d x ho
    unfold cvW at hw
    split at hw
    · rename_i v h1
      exact val (cv_sim (hρ x) h1) (by unfold execOp; rw [ho]) hw
    · split at hw
      · rename_i v h1
        exact val (bst_sim h (hρ x) h1) (by unfold execOp; rw [ho]) hw
      · obtain ⟨v, H', h1, h2⟩ := optKH_some hw
        exact eff (sb_sim h (hρ x) h1) (by unfold execOp; rw [ho]) h2
  · rename_i t x ho
    obtain ⟨v, h1, h2⟩ := optK_some hw
    exact val (mi_sim (hρ x) h1) (by unfold execOp; rw [ho]) h2
  · rename_i f first cap ho
    split at hw
    · rename_i hf
      have hf0 : first = #[] := by simpa using hf
      refine wp_value (rv := .func (.func f) #[] (cap.toList.map a.eval).toArray) ?_ (hK _ H X _ h (.refl _ _) (.refl _ _) (.fn _ _ _ hw.1 (RL.map_op hρ cap.toList)) hw.2)
      unfold execOp; rw [ho]
      have e : cap.map a.eval = (cap.toList.map a.eval).toArray := by apply Array.ext'; simp
      simp [Instr.makeFunc, hf0, e]
    · refine wp_value (rv := .func (.func f) (first.toList.map a.eval).toArray (cap.toList.map a.eval).toArray) ?_ (hK _ H X _ h (.refl _ _) (.refl _ _) (.fnb _ _ _ _ _ (RL.map_op hρ first.toList) (RL.map_op hρ cap.toList)) hw)
      unfold execOp; rw [ho]
      have e : cap.map a.eval = (cap.toList.map a.eval).toArray := by apply Array.ext'; simp
      have e2 : first.map a.eval = (first.toList.map a.eval).toArray := by apply Array.ext'; simp
      simp [Instr.makeFunc, e, e2]
  · rename_i t ho
    exact eff (mmp_sim h hb t) (by unfold execOp; rw [ho]; rfl) hw
  · rename_i t l c ho
    obtain ⟨v, H', h1, h2⟩ := optKH_some hw
    exact eff (mk_sim h (hρ l) (hρ c) h1) (by unfold execOp; rw [ho]) h2
  · rename_i t x lo hi mx ho
    obtain ⟨v, h1, h2⟩ := optK_some hw
    exact val (sl_sim h (hρ x) (OR.map_op hρ lo) (OR.map_op hρ hi) (OR.map_op hρ mx) h1) (by unfold execOp; rw [ho]) h2
  · rename_i t x i ho
    obtain ⟨v, h1, h2⟩ := optK_some hw
    exact val (fa_sim (hρ x) h1) (by unfold execOp; rw [ho]) h2
  · rename_i t x i ho
    obtain ⟨v, h1, h2⟩ := optK_some hw
    exact val (fd_sim (hρ x) h1) (by unfold execOp; rw [ho]) h2
  · rename_i t x i ho
    obtain ⟨v, h1, h2⟩ := optK_some hw
    exact val (ia_sim (hρ x) (hρ i) h1) (by unfold execOp; rw [ho]) h2
  · rename_i t x i ho
    obtain ⟨v, h1, h2⟩ := optK_some hw
    exact val (ix_sim (hρ x) (hρ i) h1) (by unfold execOp; rw [ho]) h2
  · rename_i t x i ok ho
    obtain ⟨v, h1, h2⟩ := optK_some hw
    exact val (lk_sim h (hρ x) (hρ i) h1) (by unfold execOp; rw [ho]) h2
  · rename_i t m k x ho
    obtain ⟨H', h1, h2⟩ := optH_some hw
    exact unit (mu_sim h (hρ m) (hρ k) (hρ x) h1) (by unfold execOp; rw [ho]) h2
  · rename_i t m k x ho
    obtain ⟨H', h1, h2⟩ := optH_some hw
    exact unit (mu_sim h (hρ m) (hρ k) (hρ x) h1) (by unfold execOp; rw [ho]) h2
  · rename_i t x ho
    obtain ⟨v, H', h1, h2⟩ := optKH_some hw
    exact eff (rg_sim h (hρ x) h1) (by unfold execOp; rw [ho]) h2
  · rename_i it ho
    split at hw
    · rename_i outs h1
      obtain ⟨out, hm, hs⟩ := nx_sim (P := P) h (ty := o.type) (hρ it) h1
      exact eff hs (by unfold execOp; rw [ho]) (hw out hm)
    · exact hw.elim
  · rename_i it ho
    obtain ⟨v, h1, h2⟩ := optK_some hw
    exact val (en_sim h (hρ it) h1) (by unfold execOp; rw [ho]) h2
  · rename_i x s t ho
    obtain ⟨v, h1, h2⟩ := optK_some hw
    exact val (ta_sim (hρ x) h1) (by unfold execOp; rw [ho]) h2
  · rename_i x i ho
    obtain ⟨v, h1, h2⟩ := optK_some hw
    exact val (ex_sim (hρ x) h1) (by unfold execOp; rw [ho]) h2
  · rename_i b args argTypes ho
    have hex : execOp a.eval o = builtin b argTypes o.type (args.map fun | .const _ => true | _ => false) (args.map a.eval) := by
      unfold execOp; rw [ho]; rfl
    have hargs := RL.map_op hρ args.toList
    have hea : (args.map a.eval) = (args.toList.map a.eval).toArray := by apply Array.ext'; simp
    rw [hea] at hex
    generalize hxs : args.toList.map ρ = xs at hw hargs
    generalize args.toList.map a.eval = rxs at hargs hex
    have hts : argTypes = argTypes.toList.toArray := by simp
    generalize hta : argTypes.toList = ts at hw hts
    subst hts
    unfold bltW at hw
    split at hw
    · rename_i t t1 s x
      obtain ⟨v, H', h1, h2⟩ := optKH_some hw
      cases hargs with
      | cons _ rs _ _ hs hargs =>
      cases hargs with
      | cons _ rx _ _ hx hargs =>
      cases hargs
      exact eff (ap_sim (ty := o.type) h hs hx h1) (by rw [hex]; rfl) h2
    · obtain ⟨v, h1, h2⟩ := optK_some hw
      cases hargs with
      | cons _ rs _ _ hs hargs =>
      cases hargs
      exact val (ln_sim (ty := o.type) h hs h1) (by rw [hex]; rfl) h2
    · obtain ⟨v, h1, h2⟩ := optK_some hw
      cases hargs with
      | cons _ rs _ _ hs hargs =>
      cases hargs
      exact val (cp_sim (ty := o.type) hs h1) (by rw [hex]; rfl) h2
    · obtain ⟨v, h1, h2⟩ := optK_some hw
      have := mm_sim (P := P) (t := 0) (ty := o.type) hargs h1
      simp only [Bool.false_eq_true, if_false] at this
      exact val this (by rw [hex]; rfl) h2
    · obtain ⟨v, h1, h2⟩ := optK_some hw
      have := mm_sim (P := P) (t := 0) (ty := o.type) hargs h1
      simp only [if_true] at this
      exact val this (by rw [hex]; rfl) h2
    · obtain ⟨H', h1, h2⟩ := optH_some hw
      cases hargs with
      | cons _ rs _ _ hs hargs =>
      cases hargs
      obtain ⟨w', g1, X', rfl, g3, g4, g5⟩ := cl_sim (P := P) (ty := o.type) h hs h1
      exact eff ⟨_, _, g1, X', rfl, g3, g4, g5, R.unit _⟩ (by rw [hex]; rfl) h2
    · obtain ⟨H', h1, h2⟩ := optH_some hw
      cases hargs with
      | cons _ rs _ _ hs hargs =>
      cases hargs with
      | cons _ rx _ _ hx hargs =>
      cases hargs
      obtain ⟨w', X', g1, rfl, g3, g4, g5⟩ := dl_sim (P := P) (ty := o.type) h hs hx h1
      exact eff ⟨_, _, g1, X', rfl, g3, g4, g5, R.unit _⟩ (by rw [hex]; rfl) h2
    · exact hw.elim
  · rename_i f args argTypes ho
    have hf := hρ f
    split at hw
    · rename_i g cap hq
      unfold callW at hw
      rw [hq] at hf
      generalize hec : a.eval f = ec at hf
      split at hw
      · rename_i v hv
        cases hf with
        | fn _ _ rcap hnt hcap =>
          rw [callArgs_no hnt] at hv
          obtain ⟨rv, g1, g2⟩ := ext_sim ((RL.map_op hρ args.toList).append hcap) hv
          have e : args.map a.eval ++ rcap.toArray = (args.toList.map a.eval ++ rcap).toArray := by apply Array.ext'; simp
          rw [← e] at g1
          refine wp_value (rv := rv) ?_ (hK v H X rv h (.refl _ _) (.refl _ _) g2 hw)
          unfold execOp; rw [ho]
          simp [resolve, hec, Deferred.ofValue, invoke, g1]
        | fnb _ fs cs rfs rcap hfs hcap =>
          obtain ⟨rv, g1, g2⟩ := ext_sim (hfs.append ((RL.map_op hρ args.toList).append hcap)) hv
          have e : rfs.toArray ++ args.map a.eval ++ rcap.toArray = (rfs ++ (args.toList.map a.eval ++ rcap)).toArray := by apply Array.ext'; simp
          rw [← e] at g1
          refine wp_value (rv := rv) ?_ (hK v H X rv h (.refl _ _) (.refl _ _) g2 hw)
          unfold execOp; rw [ho]
          have g1' := g1
          rw [Array.append_assoc] at g1'
          simp [resolve, hec, Deferred.ofValue, invoke, g1']
      obtain ⟨hfn, hcall⟩ := hw
      cases hf with
      | fn _ _ rcap hnt hcap =>
        have hargs := (RL.map_op hρ args.toList).append hcap
        rw [callArgs_no hnt] at hcall
        have := hcall X _ h hargs hb
        have e : args.map a.eval ++ rcap.toArray = (args.toList.map a.eval ++ rcap).toArray := by apply Array.ext'; simp
        rw [← e] at this
        refine wp_enter_ (f := g) (args := args.map a.eval ++ rcap.toArray) (w' := X.w) ?_ (this.mono ?_)
        · unfold execOp; rw [ho]
          simp [resolve, hec, Deferred.ofValue, invoke, run_enter hfn]
        · rintro e w' ⟨r, H', X', rfl, h1, h2, h3, h4, h5⟩
          cases e with
          | returned rv =>
            cases r with
            | ret v => exact hK v H' X' rv h3 h4 h5 h1 h2
            | pan v => exact h1.elim
          | panicked ch =>
            cases r with
            | ret v => exact h1.elim
            | pan v => obtain ⟨rv, rfl, h1⟩ := h1; exact hKP v H' X' rv h3 h4 h5 h1 h2
          | outgrown => exact h1.elim
      | fnb _ fs cs rfs rcap hfs hcap =>
        have hargs := hfs.append ((RL.map_op hρ args.toList).append hcap)
        have := hcall X _ h hargs hb
        have e : rfs.toArray ++ args.map a.eval ++ rcap.toArray = (rfs ++ (args.toList.map a.eval ++ rcap)).toArray := by apply Array.ext'; simp
        rw [← e] at this
        refine wp_enter_ (f := g) (args := rfs.toArray ++ args.map a.eval ++ rcap.toArray) (w' := X.w) ?_ (this.mono ?_)
        · unfold execOp; rw [ho]
          simp [resolve, hec, Deferred.ofValue, invoke, run_enter hfn]
        · rintro e w' ⟨r, H', X', rfl, h1, h2, h3, h4, h5⟩
          cases e with
          | returned rv =>
            cases r with
            | ret v => exact hK v H' X' rv h3 h4 h5 h1 h2
            | pan v => exact h1.elim
          | panicked ch =>
            cases r with
            | ret v => exact h1.elim
            | pan v => obtain ⟨rv, rfl, h1⟩ := h1; exact hKP v H' X' rv h3 h4 h5 h1 h2
          | outgrown => exact h1.elim
    · exact hw.elim
  · rename_i f args argTypes ho
    have hf := hρ f
    split at hw
    · rename_i g cap hq
      obtain ⟨hnt, ha, hd⟩ := hw
      rw [hq] at hf
      generalize hec : a.eval f = ec at hf
      cases hf with
      | fnb => simp [hdT] at hnt
      | fn _ _ rcap _ hcap =>
      have ha0 : args = #[] := by simpa using ha
      exact wp_defer_ (by unfold execOp; rw [ho]; simp [resolve, hec, Deferred.ofValue, ha0]) (hKD g cap rcap hcap hd)
    · exact hw.elim
  · rename_i x ho
    have hx := hρ x
    split at hw
    · rename_i t v hq
      rw [hq] at hx
      generalize hec : a.eval x = ec at hx
      cases hx with
      | ifc _ _ rv hv =>
      exact wp_panic_ (by unfold execOp; rw [ho]; simp [hec, Instr.panic]) (hKP _ H X _ h (.refl _ _) (.refl _ _) (.ifc _ _ _ hv) hw)
    · exact hw.elim
  · exact hw.elim

end
end Go.Ns

/- Ns, part S: code, as a demand on what comes behind it; calls of functions without deferred calls; a call that leaves nothing behind. -/
namespace Go.Ns

structure S where
  σ : Nat → V
  H : Heap
  D : Ds

def upd (σ : Nat → V) (d : Option Tmp) (v : V) : Nat → V :=
  match d with
  | some d => fun t => if t = d then v else σ t
  | none => σ

inductive DR (X : Cx) : Ds → List Deferred → Prop
  | nil : DR X [] []
  | cons (f : FuncId) (cap : List V) (rcap : List Value) (D : Ds) (ds : List Deferred) : RL X cap rcap → DR X D ds → DR X ((f, cap) :: D) ({ target := .fn (.func f) rcap.toArray, args := #[] } :: ds)

theorem DR.mono {base : Nat} {X X' : Cx} (e : Ext base X X') : ∀ {D : Ds} {ds : List Deferred}, DR X D ds → DR X' D ds
  | _, _, .nil => .nil
  | _, _, .cons f cap rcap D ds h1 h2 => .cons f cap rcap D ds (RL.mono e h1) (DR.mono e h2)

structure Rel (base N : Nat) (X : Cx) (s : S) (a : Act) : Prop where
  hr : HR X s.H
  n : a.tmps.size = N
  tm : ∀ t, R X (s.σ t) (a.tmps.getD t undef)
  ds : DR X s.D a.defers
  low : base ≤ s.H.n

inductive Ex where
  | normal
  | exit (id : Nat)
  | ret
  | pan (v : V)

def ExR (X : Cx) : Exit → Ex → Prop
  | .normal, .normal => True
  | .exit i, .exit j => i = j
  | .ret, .ret => True
  | .panic ch, .pan v => ∃ rv, ch = [{ v := rv, recovered := false }] ∧ R X v rv
  | _, _ => False

/-- What code c does, begun in s. -/
def NWp (P : Program) (base N : Nat) (c : Code) (Q : Ex → S → Prop) (s : S) : Prop :=
  ∀ (X : Cx) (a : Act), Rel base N X s a → c.wp P (fun e a' w' => ∃ ex s' X', X'.w = w' ∧ ExR X' e ex ∧ Q ex s' ∧ Rel base N X' s' a' ∧ Ext base X X' ∧ Low base s.H s'.H) a X.w

def wantV (ops : Array Oper) (σ : Nat → V) : Option (Nat × Bool) → Option Bool
  | none => some true
  | some (j, want) => match (ops[j]?).bind (·.dst) with
    | some d => match σ d with
      | .bool b => some (b == want)
      | .tup [] => some false
      | _ => none
    | none => some false

def dstOk (N : Nat) : Option Tmp → Prop
  | some d => d < N
  | none => True

/-- Operations, one behind the other. -/
def opsW (P : Program) (base N : Nat) (ops : Array Oper) (K : S → Prop) (KP : V → S → Prop) : List Oper → S → Prop
  | [], s => K s
  | o :: rest, s => dstOk N o.dst ∧ match wantV ops s.σ o.guard with
    | some true => opW P base o (ρV s.σ) s.H (fun v H => opsW P base N ops K KP rest ⟨upd s.σ o.dst v, H, s.D⟩) (fun f cap => opsW P base N ops K KP rest ⟨upd s.σ o.dst (.tup []), s.H, (f, cap) :: s.D⟩) (fun v H => KP v ⟨s.σ, H, s.D⟩)
    | some false => opsW P base N ops K KP rest ⟨upd s.σ o.dst (.tup []), s.H, s.D⟩
    | none => False

section
variable {P : Program} {base N : Nat}

theorem Rel.eval {X : Cx} {s : S} {a : Act} (h : Rel base N X s a) (x : Operand) : R X (ρV s.σ x) (a.eval x) := by
  cases x with
  | tmp t => exact h.tm t
  | const v => exact R.vconst X v
  | global g => exact .undef _
  | func f => exact .fn f [] [] rfl .nil

theorem Rel.put {X : Cx} {s : S} {a : Act} (h : Rel base N X s a) {d : Option Tmp} (hd : dstOk N d) {v : V} {rv : Value} (hv : R X v rv) : Rel base N X ⟨upd s.σ d v, s.H, s.D⟩ (a.put d rv) := by
  cases d with
  | none => exact ⟨h.hr, h.n, h.tm, h.ds, h.low⟩
  | some d =>
    have hd : d < a.tmps.size := by rw [h.n]; exact hd
    refine ⟨h.hr, by simp [Act.put, h.n], fun t => ?_, h.ds, h.low⟩
    simp only [upd, Act.put]
    by_cases ht : t = d
    · subst ht
      simp [hd, hv]
    · rw [if_neg ht]
      have := h.tm t
      simp only [Array.getD_eq_getD_getElem?, Array.getElem?_setIfInBounds_ne (Ne.symm ht)] at this ⊢
      exact this

theorem Rel.step {X X' : Cx} {s : S} {a : Act} {H' : Heap} (h : Rel base N X s a) (hr : HR X' H') (e : Ext base X X') (l : Low base s.H H') : Rel base N X' ⟨s.σ, H', s.D⟩ a :=
  ⟨hr, h.n, fun t => R.mono e (h.tm t), h.ds.mono e, Nat.le_trans h.low l.2⟩

theorem wantV_sim {X : Cx} {s : S} {a : Act} (h : Rel base N X s a) {ops : Array Oper} {o : Oper} {b : Bool} (hw : wantV ops s.σ o.guard = some b) (hN : ∀ (j : Nat) (o' : Oper) (d : Tmp), ops[j]? = some o' → o'.dst = some d → d < N) : Region.wanted o (yielded ops a.tmps) = b := by
  unfold wantV at hw
  unfold Region.wanted
  split at hw
  · rename_i hg; rw [hg]; simpa using hw
  · rename_i j want hg
    rw [hg]
    simp only [yielded]
    split at hw
    · rename_i d hd
      rw [hd]
      simp only [Option.bind_some]
      have ht := h.tm d
      have hlt : d < a.tmps.size := by
        rw [h.n]
        simp only [Option.bind_eq_some_iff] at hd
        obtain ⟨o', h1, h2⟩ := hd
        exact hN j o' d h1 h2
      have hget : a.tmps[d]? = some (a.tmps.getD d undef) := by simp [hlt]
      rw [hget]
      split at hw
      · rename_i b' hb
        rw [hb] at ht
        generalize a.tmps.getD d undef = rv at ht
        cases ht
        cases hw
        cases b' <;> cases want <;> rfl
      · rename_i hb
        rw [hb] at ht
        generalize a.tmps.getD d undef = rv at ht
        cases ht with
        | tup _ rs hr =>
        cases hr
        cases hw
        cases want <;> rfl
      · cases hw
    · rename_i hd
      rw [hd]
      cases hw
      cases want <;> rfl

theorem opsW_sound {ops : Array Oper} (hN : ∀ (j : Nat) (o' : Oper) (d : Tmp), ops[j]? = some o' → o'.dst = some d → d < N) {K : S → Prop} {KP : V → S → Prop} {Q : Exit → Act → World → Prop} {X0 : Cx} {H0 : Heap} :
    ∀ (l : List Oper) (s : S) (X : Cx) (a : Act), opsW P base N ops K KP l s → Rel base N X s a → Ext base X0 X → Low base H0 s.H →
    (∀ s' X' a', Rel base N X' s' a' → Ext base X0 X' → Low base H0 s'.H → K s' → Q .normal a' X'.w) →
    (∀ v s' X' a' rv, Rel base N X' s' a' → Ext base X0 X' → Low base H0 s'.H → R X' v rv → KP v s' → Q (.panic [{ v := rv, recovered := false }]) a' X'.w) →
    wpList P ops Q l a X.w
  | [], s, X, a, h, hr, e, l, hK, hKP => hK s X a hr e l h
  | o :: rest, s, X, a, h, hr, e, l, hK, hKP => by
    simp only [opsW] at h
    obtain ⟨hd, h⟩ := h
    unfold wpList
    split at h
    · rename_i hw
      rw [if_pos (by rw [wantV_sim hr hw hN])]
      left
      refine opW_sound (H := s.H) hr.hr hr.low (fun x => hr.eval x) h ?_ ?_ ?_
      · intro v H' X' rv h1 h2 h3 h4 h5
        exact opsW_sound hN rest _ X' _ h5 ((hr.step h1 h2 h3).put hd h4) (e.trans h2) (l.trans h3) hK hKP
      · intro f cap rcap h1 h2
        have hr' : Rel base N X ⟨s.σ, s.H, (f, cap) :: s.D⟩ { a with defers := { target := .fn (.func f) rcap.toArray, args := #[] } :: a.defers } := ⟨hr.hr, hr.n, hr.tm, .cons _ _ _ _ _ h1 hr.ds, hr.low⟩
        exact opsW_sound hN rest _ X _ h2 (hr'.put hd (R.unit X)) e l hK hKP
      · intro v H' X' rv h1 h2 h3 h4 h5
        exact hKP v _ X' a rv (hr.step h1 h2 h3) (e.trans h2) (l.trans h3) h4 h5
    · rename_i hw
      rw [if_neg (by rw [wantV_sim hr hw hN]; simp)]
      exact opsW_sound hN rest _ X _ h (hr.put hd (R.unit X)) e l hK hKP
    · exact h.elim

/-! ### Code -/
def opsOk (N : Nat) (ops : List Oper) : Bool := ops.all fun o => match o.dst with | some d => decide (d < N) | none => true

theorem opsOk_spec {ops : List Oper} (h : opsOk N ops = true) (j : Nat) (o : Oper) (d : Tmp) (ho : ops.toArray[j]? = some o) (hd : o.dst = some d) : d < N := by
  have hm : o ∈ ops := List.mem_of_getElem? (by simpa using ho)
  have := List.all_eq_true.1 h o hm
  simpa [hd] using this

theorem nwp_region {id : Nat} {ops : List Oper} {Q : Ex → S → Prop} {s : S} (hok : opsOk N ops = true) (h : opsW P base N ops.toArray (fun s' => Q .normal s') (fun v s' => Q (.pan v) s') ops s) : NWp P base N (.region id ops.toArray false) Q s := by
  intro X a hr
  refine wp_region_lit (opsW_sound (X0 := X) (H0 := s.H) (opsOk_spec hok) ops s X a h hr (.refl _ _) (.refl _ _) ?_ ?_)
  · intro s' X' a' h1 h2 h3 h4
    exact ⟨.normal, s', X', rfl, trivial, h4, h1, h2, h3⟩
  · intro v s' X' a' rv h1 h2 h3 h4 h5
    exact ⟨.pan v, s', X', rfl, ⟨rv, rfl, h4⟩, h5, h1, h2, h3⟩

theorem NWp.mono {c : Code} {Q Q' : Ex → S → Prop} {s : S} (h : NWp P base N c Q s) (hq : ∀ ex s', Q ex s' → Q' ex s') : NWp P base N c Q' s :=
  fun X a hr => wp_mono (h X a hr) fun _ _ _ ⟨ex, s', X', h1, h2, h3, h4⟩ => ⟨ex, s', X', h1, h2, hq _ _ h3, h4⟩

theorem nwp_skip {Q : Ex → S → Prop} {s : S} (h : Q .normal s) : NWp P base N .skip Q s :=
  fun X _ hr => wp_skip ⟨.normal, s, X, rfl, trivial, h, hr, .refl _ _, .refl _ _⟩

theorem nwp_ret {Q : Ex → S → Prop} {s : S} (h : Q .ret s) : NWp P base N .ret Q s :=
  fun X _ hr => wp_ret ⟨.ret, s, X, rfl, trivial, h, hr, .refl _ _, .refl _ _⟩

theorem nwp_exit {id : Nat} {Q : Ex → S → Prop} {s : S} (h : Q (.exit id) s) : NWp P base N (.exit id) Q s :=
  fun X _ hr => wp_exit ⟨.exit id, s, X, rfl, rfl, h, hr, .refl _ _, .refl _ _⟩

def thenQ (K : S → Prop) (Q : Ex → S → Prop) : Ex → S → Prop
  | .normal, s => K s
  | ex, s => Q ex s

theorem nwp_seq {x y : Code} {Q : Ex → S → Prop} {s : S} (h : NWp P base N x (thenQ (NWp P base N y Q) Q) s) : NWp P base N (.seq x y) Q s := by
  intro X a hr
  refine wp_seq (wp_mono (h X a hr) ?_)
  rintro e a' w' ⟨ex, s', X', rfl, hex, hq, hr', he, hl⟩
  cases e <;> cases ex <;> simp only [ExR] at hex
  · refine wp_mono (hq X' a' hr') ?_
    rintro e2 a2 w2 ⟨ex2, s2, X2, rfl, hex2, hq2, hr2, he2, hl2⟩
    exact ⟨ex2, s2, X2, rfl, hex2, hq2, hr2, he.trans he2, hl.trans hl2⟩
  · exact ⟨.exit _, s', X', rfl, hex, hq, hr', he, hl⟩
  · exact ⟨.ret, s', X', rfl, hex, hq, hr', he, hl⟩
  · exact ⟨.pan _, s', X', rfl, hex, hq, hr', he, hl⟩

theorem nwp_cond {c : Operand} {x y : Code} {Q : Ex → S → Prop} {s : S} {b : Bool} (hc : ρV s.σ c = .bool b) (h : NWp P base N (if b then x else y) Q s) : NWp P base N (.cond c x y) Q s := by
  intro X a hr
  have := hr.eval c
  rw [hc] at this
  generalize he : a.eval c = ec at this
  cases this
  exact wp_cond he (h X a hr)

def blockQ (id : Nat) (Q : Ex → S → Prop) : Ex → S → Prop
  | .exit i, s => if i = id then Q .normal s else Q (.exit i) s
  | ex, s => Q ex s

theorem nwp_block {id : Nat} {c : Code} {Q : Ex → S → Prop} {s : S} (h : NWp P base N c (blockQ id Q) s) : NWp P base N (.block id c) Q s := by
  intro X a hr
  refine wp_block (wp_mono (h X a hr) ?_)
  rintro e a' w' ⟨ex, s', X', rfl, hex, hq, hr', he, hl⟩
  cases e <;> cases ex <;> simp only [ExR] at hex
  · exact ⟨.normal, s', X', rfl, hex, hq, hr', he, hl⟩
  · subst hex
    simp only [blockQ] at hq
    simp only [Exit.inBlock]
    split
    · rename_i hi; rw [if_pos hi] at hq; exact ⟨.normal, s', X', rfl, trivial, hq, hr', he, hl⟩
    · rename_i hi; rw [if_neg hi] at hq; exact ⟨.exit _, s', X', rfl, rfl, hq, hr', he, hl⟩
  · exact ⟨.ret, s', X', rfl, hex, hq, hr', he, hl⟩
  · exact ⟨.pan _, s', X', rfl, hex, hq, hr', he, hl⟩

/-- A loop: I n s: what holds at a round's head, n: how many rounds are left at most. -/
theorem nwp_loop {c : Code} {Q : Ex → S → Prop} {s : S} (I : Nat → S → Prop) {n : Nat} (h0 : I n s)
    (hr : ∀ n s, I n s → NWp P base N c (thenQ (fun s' => ∃ m, m < n ∧ I m s') Q) s) : NWp P base N (.loop c) Q s := by
  intro X a hrel b k cs
  have key : ∀ n (s' : S) (X' : Cx) (a' : Act), I n s' → Rel base N X' s' a' → Ext base X X' → Low base s.H s'.H →
      ∃ e a2 w2, (∃ ex s2 X2, X2.w = w2 ∧ ExR X2 e ex ∧ Q ex s2 ∧ Rel base N X2 s2 a2 ∧ Ext base X X2 ∧ Low base s.H s2.H) ∧
        Arrives P (lone (b.at a' (.code c :: .inLoop c :: k)) cs X'.w) b k cs e a2 w2 := by
    intro n
    induction n using Nat.strongRecOn with
    | _ n ih =>
      intro s' X' a' hI hr' he' hl'
      obtain ⟨e, a1, w1, ⟨ex, s1, X1, rfl, hex, hq, hr1, he1, hl1⟩, harr⟩ := hr n s' hI X' a' hr' b (.inLoop c :: k) cs
      cases e <;> cases ex <;> simp only [ExR] at hex
      · obtain ⟨m, hm, hI1⟩ := hq
        obtain ⟨e2, a2, w2, hq2, harr2⟩ := ih m hm s1 X1 a1 hI1 hr1 (he'.trans he1) (hl'.trans hl1)
        exact ⟨e2, a2, w2, hq2, .of_steps (Steps.trans harr (.one step_inLoop)) harr2⟩
      · exact ⟨.exit _, a1, _, ⟨.exit _, s1, X1, rfl, hex, hq, hr1, he'.trans he1, hl'.trans hl1⟩, .pass (x := .inLoop c) rfl (fun _ _ => .inl (by simp)) harr⟩
      · exact ⟨.ret, a1, _, ⟨.ret, s1, X1, rfl, trivial, hq, hr1, he'.trans he1, hl'.trans hl1⟩, .pass (x := .inLoop c) rfl (fun _ _ => .inl (by simp)) harr⟩
      · exact ⟨.panic _, a1, _, ⟨.pan _, s1, X1, rfl, hex, hq, hr1, he'.trans he1, hl'.trans hl1⟩, .pass (x := .inLoop c) rfl (fun _ _ => .inl (by simp)) harr⟩
  obtain ⟨e, a2, w2, hq, harr⟩ := key n s X a h0 hrel (.refl _ _) (.refl _ _)
  exact ⟨e, a2, w2, hq, .of_steps (.one step_loop) harr⟩

/-! ### A function's call -/
def σ0 (args : List V) : Nat → V := fun t => args.getD t (.tup [])

def resV (P : Program) (s : S) : ResultVar → Option V
  | .tmp t => some (s.σ t)
  | .cell a t => ldV P s.H t (s.σ a)

def resVs (P : Program) (s : S) : List ResultVar → Option (List V)
  | [] => some []
  | r :: rs => (resV P s r).bind fun v => (resVs P s rs).map fun vs => v :: vs

def oneV : List V → V
  | [v] => v
  | vs => .tup vs

def resF (tmps : Array Value) : ResultVar → Sem Value
  | .tmp t => pure (tmps.getD t undef)
  | .cell x t => do loadVar t (← asAddr (tmps.getD x undef))

theorem results_eq (fn : Func) (tmps : Array Value) : results fn tmps = (do
    let vs ← fn.results.mapM (resF tmps)
    pure (if h : vs.size = 1 then vs[0] else .tuple vs)) := by
  unfold results
  congr 1

theorem resF_sim {X : Cx} {s : S} {a : Act} (hr : Rel base N X s a) {r : ResultVar} {v : V} (hv : resV P s r = some v) : ∃ rv, (resF a.tmps r).run P X.w = .ok rv X.w ∧ R X v rv := by
  cases r with
  | tmp t =>
    simp only [resV, Option.some.injEq] at hv
    subst hv
    exact ⟨a.tmps.getD t undef, rfl, hr.tm t⟩
  | cell x t =>
    simp only [resV] at hv
    obtain ⟨ru, g1, g2⟩ := ld_sim (P := P) hr.hr (hr.tm x) hv
    refine ⟨ru, ?_, g2⟩
    have hx := hr.tm x
    obtain ⟨ad, had⟩ : ∃ ad, a.tmps.getD x undef = .pointer (some ad) := by
      generalize a.tmps.getD x undef = rv at hx
      unfold ldV at hv
      split at hv
      · generalize s.σ x = sx at hx hv
        cases hx <;> first | (exact ⟨_, rfl⟩) | (simp at hv; done)
      · cases hv
    show (do loadVar t (← asAddr (a.tmps.getD x undef)) : Sem Value).run P X.w = _
    rw [had] at g1 ⊢
    simpa [Instr.loadAt, Instr.sureAddr, asAddr] using g1

theorem results_sim {fn : Func} {X : Cx} {s : S} {a : Act} (hr : Rel base N X s a) {vs : List V} (h : resVs P s fn.results.toList = some vs) :
    ∃ rv, (results fn a.tmps).run P X.w = .ok rv X.w ∧ R X (oneV vs) rv := by
  have key : ∀ (l : List ResultVar) (vs : List V), resVs P s l = some vs → ∃ rvs, (l.mapM (resF a.tmps)).run P X.w = .ok rvs X.w ∧ RL X vs rvs := by
    intro l
    induction l with
    | nil => intro vs h; simp [resVs] at h; subst h; exact ⟨[], by simp, .nil⟩
    | cons r l ih =>
      intro vs h
      simp only [resVs, Option.bind_eq_some_iff, Option.map_eq_some_iff] at h
      obtain ⟨v, hv, vs', hvs, rfl⟩ := h
      obtain ⟨rvs, h1, h2⟩ := ih vs' hvs
      obtain ⟨rv, g1, g2⟩ := resF_sim (P := P) hr hv
      refine ⟨rv :: rvs, ?_, .cons _ _ _ _ g2 h2⟩
      simp only [List.mapM_cons, Sem.run_bind, Sem.run_pure, Result.andThen_ok, g1, h1]
  obtain ⟨rvs, h1, h2⟩ := key _ vs h
  refine ⟨if h : rvs.length = 1 then rvs[0] else .tuple rvs.toArray, ?_, ?_⟩
  · rw [results_eq]
    simp only [Sem.run_bind, Array.mapM_eq_mapM_toList, Sem.run_map, h1, Result.andThen_ok, Sem.run_pure]
    congr 1
  · cases h2 with
    | nil => simpa [oneV] using R.tup [] [] .nil
    | cons v rv vs rvs a1 a2 =>
      cases a2 with
      | nil => simpa [oneV] using a1
      | cons v2 rv2 vs2 rvs2 b1 b2 => simpa [oneV] using R.tup _ (rv :: rv2 :: rvs2) (.cons _ _ _ _ a1 (.cons _ _ _ _ b1 b2))

/-- What a body must end in. -/
def bodyQ (P : Program) (rs : List ResultVar) (Q : Res → Heap → Prop) : Ex → S → Prop
  | .normal, s | .ret, s => s.D = [] ∧ match resVs P s rs with | some vs => Q (.ret (oneV vs)) s.H | none => False
  | .pan v, s => s.D = [] ∧ Q (.pan v) s.H
  | .exit _, _ => False

theorem rel_init {X : Cx} {H : Heap} {args : List V} {rargs : List Value} (hr : HR X H) (hb : base ≤ H.n) (ha : RL X args rargs) (n : Nat) :
    Rel base (rargs.length + (n - rargs.length)) X ⟨σ0 args, H, []⟩ { tmps := rargs.toArray ++ Array.replicate (n - rargs.toArray.size) undef, defers := [] } := by
  refine ⟨hr, by simp, fun t => ?_, .nil, hb⟩
  simp only [σ0, List.getD_eq_getElem?_getD, Array.getD_eq_getD_getElem?, Array.getElem?_append, List.size_toArray]
  by_cases ht : t < rargs.length
  · rw [if_pos ht]
    have hl : t < args.length := by rw [ha.length]; exact ht
    obtain ⟨rv, h1, h2⟩ := ha.get t (List.getElem?_eq_getElem hl)
    simp only [List.getElem?_toArray, h1, Option.getD_some, List.getElem?_eq_getElem hl]
    exact h2
  · rw [if_neg ht]
    have hl : ¬ t < args.length := by rw [ha.length]; exact ht
    rw [List.getElem?_eq_none (by omega)]
    simp only [Option.getD_none]
    rw [Array.getElem?_replicate]
    split <;> exact R.unit X

theorem ncall_body {f : FuncId} {fn : Func} {c : Code} {args : List V} {H : Heap} {Q : Res → Heap → Prop} (hf : P.funcs[f]? = some fn) (hbody : fn.body = some c) (hn : args.length ≤ fn.ntmps)
    (h : NWp P base fn.ntmps c (bodyQ P fn.results.toList Q) ⟨σ0 args, H, []⟩) : NCall P base f args H Q := by
  intro X rargs hr ha hb
  refine calls_of_wp hf hbody ?_
  have hrel := rel_init hr hb ha fn.ntmps
  have hN : rargs.length + (fn.ntmps - rargs.length) = fn.ntmps := by rw [← ha.length]; omega
  rw [hN] at hrel
  refine wp_mono (h X _ hrel) ?_
  rintro e a' w' ⟨ex, s', X', rfl, hex, hq, hr', he, hl⟩
  have dsnil : s'.D = [] → a'.defers = [] := by
    intro hD
    have := hr'.ds
    rw [hD] at this
    generalize a'.defers = ds at this
    cases this; rfl
  cases e <;> cases ex <;> simp only [ExR] at hex
  · obtain ⟨hD, hk⟩ := hq
    obtain ⟨vs, h1, h2⟩ : ∃ vs, resVs P s' fn.results.toList = some vs ∧ Q (.ret (oneV vs)) s'.H := by
      split at hk
      · rename_i vs h1; exact ⟨vs, h1, hk⟩
      · exact hk.elim
    obtain ⟨rv, g1, g2⟩ := results_sim hr' h1
    exact ⟨dsnil hD, rv, g1, .ret (oneV vs), s'.H, X', rfl, g2, h2, hr'.hr, he, hl⟩
  · exact hq.elim
  · obtain ⟨hD, hk⟩ := hq
    obtain ⟨vs, h1, h2⟩ : ∃ vs, resVs P s' fn.results.toList = some vs ∧ Q (.ret (oneV vs)) s'.H := by
      split at hk
      · rename_i vs h1; exact ⟨vs, h1, hk⟩
      · exact hk.elim
    obtain ⟨rv, g1, g2⟩ := results_sim hr' h1
    exact ⟨dsnil hD, rv, g1, .ret (oneV vs), s'.H, X', rfl, g2, h2, hr'.hr, he, hl⟩
  · obtain ⟨hD, hk⟩ := hq
    obtain ⟨rv, rfl, g2⟩ := hex
    exact ⟨dsnil hD, .pan _, s'.H, X', rfl, ⟨rv, rfl, g2⟩, hk, hr'.hr, he, hl⟩

end
end Go.Ns

