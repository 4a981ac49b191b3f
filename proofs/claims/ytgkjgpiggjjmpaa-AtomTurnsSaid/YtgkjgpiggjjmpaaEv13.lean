/- Lemmas for the claim: Building, making, cutting, clearing. (no condition.) -/
import Derived.Test.YtgkjgpiggjjmpaaEv12
/-! Building, making, cutting, clearing. -/
namespace Go.Proofs.Ytgkjgpiggjjmpaa.Ev
open Go
set_option linter.unusedVariables false

theorem foldl_set : ∀ (vs : List Value) (cells : Array Value) (o k : Nat) (c1 c2 c3 : List Value), cells.toList = c1 ++ c2 ++ c3 → c1.length = o + k → c2.length = vs.length →
    ((vs.zipIdx k).foldl (fun (cs : Array Value) (p : Value × Nat) => cs.setIfInBounds (o + p.2) p.1) cells).toList = c1 ++ vs ++ c3
  | [], cells, o, k, c1, c2, c3, h, h1, h2 => by
    have : c2 = [] := List.eq_nil_of_length_eq_zero h2
    subst this
    simpa using h
  | v :: vs, cells, o, k, c1, [], c3, h, h1, h2 => by simp at h2
  | v :: vs, cells, o, k, c1, x :: c2, c3, h, h1, h2 => by
    simp only [List.zipIdx_cons, List.foldl_cons]
    have h' : (cells.setIfInBounds (o + k) v).toList = (c1 ++ [v]) ++ c2 ++ c3 := by
      rw [Array.toList_setIfInBounds, h, ← h1, List.append_assoc, List.set_append_right _ _ (Nat.le_refl _)]
      simp
    have := foldl_set vs (cells.setIfInBounds (o + k) v) o (k + 1) (c1 ++ [v]) c2 c3 h' (by simp; omega) (by simpa using h2)
    simpa using this

/-- One part is laid. -/
theorem fill_step {place : Nat → Option (Nat × Nat)} {cells : Array Value} {i off size : Nat} {v : Value} {rest : List (Nat × Value)} {c1 c2 c3 : List Value} (hp : place i = some (off, size)) (hv : v.cells.toList.length = size)
    (h : cells.toList = c1 ++ c2 ++ c3) (h1 : c1.length = off) (h2 : c2.length = size) :
    Instr.fill place cells ((i, v) :: rest) = Instr.fill place (c1 ++ v.cells.toList ++ c3).toArray rest := by
  have hsz : cells.size = c1.length + c2.length + c3.length := by rw [← Array.length_toList, h]; simp; omega
  have hv' : v.cells.size = size := by simpa using hv
  have hfold : v.cells.zipIdx.foldl (fun (cs : Array Value) (p : Value × Nat) => cs.setIfInBounds (off + p.2) p.1) cells = (c1 ++ v.cells.toList ++ c3).toArray := by
    apply Array.ext'
    have := foldl_set v.cells.toList cells off 0 c1 c2 c3 h (by simpa using h1) (by omega)
    rw [← this, ← Array.foldl_toList]
    simp
  simp only [Instr.fill, hp]
  rw [if_neg (by rw [hv', hsz]; simp; omega)]
  congr 1

section
variable {P : Program} {X : Tbl P} {w0 : World} {S : Who} {E : Env} {T : TypeId}

/-- Parts, and what they are. -/
def PartsR (E : Env) (ps : List (Nat × CV)) (vs : List (Nat × Value)) : Prop := Segs (fun (p : Nat × CV) (q : List (Value)) => ∃ v, q = [v] ∧ CVR E p.2 v) ps (vs.map (·.2)) ∧ ps.map (·.1) = vs.map (·.1)

theorem PartsR.cons {E : Env} {i : Nat} {a : CV} {ps : List (Nat × CV)} {vs : List (Nat × Value)} (h : PartsR E ((i, a) :: ps) vs) : ∃ v vs', vs = (i, v) :: vs' ∧ CVR E a v ∧ PartsR E ps vs' := by
  obtain ⟨⟨c1, c2, e, ⟨v, rfl, hv⟩, h2⟩, hm⟩ := h
  match vs, e, hm with
  | (j, u) :: vs', e, hm =>
    simp only [List.map_cons, List.cons_append, List.nil_append, List.cons.injEq] at e hm
    obtain ⟨rfl, e'⟩ := e
    obtain ⟨rfl, hm⟩ := hm
    subst e'
    exact ⟨u, vs', rfl, hv, h2, hm⟩

theorem bld_ok (h : HR w0 S E) {i : TInfo} (hX : X.get T = some i) (hip : i.t.isPair = true) {places : Nat → Option (Nat × Nat)} (hpl : ∀ (f o : Nat) u j, i.flds[f]? = some (o, u) → X.get u = some j → places f = some (o, j.t.sz)) :
    ∀ (ps : List (Nat × CV)) (vs : List (Nat × Value)) (ls ls' : List SV) (cells : Array Value), bld X.get i.t i.flds E.hp ps ls = some ls' → PartsR E ps vs → Segs (SVC E) ls cells.toList →
      ∃ cells', Instr.fill places cells vs = some cells' ∧ Segs (SVC E) ls' cells'.toList
  | [], vs, ls, ls', cells, hb, hp, hs => by
    obtain ⟨_, hm⟩ := hp
    cases vs with
    | nil =>
      simp only [bld, Option.some.injEq] at hb
      subst hb
      exact ⟨cells, rfl, hs⟩
    | cons => simp at hm
  | (f, a) :: ps, vs, ls, ls', cells, hb, hp, hs => by
    obtain ⟨v, vs', rfl, hv, hp'⟩ := hp.cons
    simp only [bld] at hb
    split at hb
    · rename_i o u hf
      split at hb
      · rename_i j hj
        split at hb
        · rename_i l' hl'
          split at hb
          · rename_i hc
            obtain ⟨ho, hmap, hsz, hlive⟩ := hc
            have hsv := leavesOf_ok h hl' hlive hv
            obtain ⟨c1, c2, c3, e, h1, h2, h3⟩ := segs_box3 hs (leafStart i.t f) l'.length
            have hvl : v.cells.toList.length = j.t.sz := (segs_sumsz hsv).trans hsz
            rw [fill_step (hpl f o u j hf hj) hvl e (by rw [segs_sumsz h1, ho]) (by rw [segs_sumsz h2, ← sumsz_map hmap, hsz])]
            exact bld_ok h hX hip hpl ps vs' _ ls' _ hb hp' (by simpa using (h1.append hsv).append h3)
          · cases hb
        · cases hb
      · cases hb
    · cases hb

theorem build_ok (h : HR w0 S E) {i : TInfo} (hX : X.get T = some i) (hip : i.t.isPair = true) (hpr : ∃ a b, i.t = .pair a b) (hfl : ∀ (f o : Nat) u, i.flds[f]? = some (o, u) → (X.get u).isSome) {ps : List (Nat × CV)} {vs : Array (Nat × Value)} {ls' : List SV} (hb : bld X.get i.t i.flds E.hp ps (zl i.t) = some ls') (hp : PartsR E ps vs.toList) :
    ∃ z, (Instr.build T vs).run P E.w = .ok z E.w ∧ CVR E (.agg ls') z := by
  obtain ⟨ti, zv, hi1, hi2, hi3, hi4, hi5, hi6⟩ := (X.ok _ i hX).info
  have hu := (X.ok _ i hX).und
  have hfs : ∃ fs, P.underlying T = some (.struct fs) ∧ fs.toList.map (fun f => (f.offset, f.type)) = i.flds := by
    obtain ⟨a, b, e⟩ := hpr
    rw [e] at hu
    obtain ⟨fs, h1, h2, _⟩ := hu
    exact ⟨fs, h1, h2⟩
  obtain ⟨fs, hus, hfm⟩ := hfs
  have hpl : ∃ places, fs.toList.mapM (fun f => (P.info? f.type).map fun i => (f.offset, i.size)) = some places ∧ ∀ (f o : Nat) u j, i.flds[f]? = some (o, u) → X.get u = some j → places[f]? = some (o, j.t.sz) := by
    have key : ∀ (l : List Field) (m : List (Nat × TypeId)), l.map (fun f => (f.offset, f.type)) = m → (∀ (f o : Nat) u, m[f]? = some (o, u) → (X.get u).isSome) →
        ∃ places, l.mapM (fun f => (P.info? f.type).map fun i => (f.offset, i.size)) = some places ∧ ∀ (f o : Nat) u j, m[f]? = some (o, u) → X.get u = some j → places[f]? = some (o, j.t.sz) := by
      intro l
      induction l with
      | nil => intro m hm _; subst hm; exact ⟨[], rfl, fun f o u j hf => by simp at hf⟩
      | cons fd l ih =>
        intro m hm hs
        subst hm
        obtain ⟨j, hj⟩ := Option.isSome_iff_exists.1 (hs 0 fd.offset fd.type rfl)
        obtain ⟨tj, zj, k1, k2, _⟩ := (X.ok _ j hj).info
        obtain ⟨places, h1, h2⟩ := ih _ rfl (fun f o u hf => hs (f + 1) o u (by simpa using hf))
        refine ⟨(fd.offset, j.t.sz) :: places, by simp [k1, h1, k2], fun f o u j' hf hj' => ?_⟩
        cases f with
        | zero =>
          simp only [List.map_cons, List.getElem?_cons_zero, Option.some.injEq, Prod.mk.injEq] at hf
          obtain ⟨rfl, rfl⟩ := hf
          rw [hj] at hj'
          simp only [Option.some.injEq] at hj'
          subst hj'; rfl
        | succ f => simpa using h2 f o u j' (by simpa using hf) hj'
    exact key _ _ hfm hfl
  obtain ⟨places, hp1, hp2⟩ := hpl
  have hs : Segs (SVC E) (zl i.t) zv.cells.toList := by rw [hi5]; exact segs_zl
  obtain ⟨cells', h1, h2⟩ := bld_ok h hX hip (places := fun x => places.toArray[x]?) (fun f o u j hf hj => by simpa using hp2 f o u j hf hj) ps vs.toList _ ls' zv.cells hb hp hs
  refine ⟨.agg cells', run_build E.w T vs cells' ?_, cells'.toList, h2, by simp⟩
  simp only [Program.built, hi1, hus, hi4, hp1, h1]

/-- The elements of a literal, laid one behind the other. -/
theorem elems_ok {t : Ty} (size : Nat) (hsz : t.sz = size) : ∀ (ps : List (Nat × CV)) (vs : List (Nat × Value)) (k : Nat) (xs : List t.D) (cells : Array Value) (c1 c2 : List Value), elems t k ps = some xs → PartsR E ps vs → cells.toList = c1 ++ c2 → c1.length = k * size → ps.length * size ≤ c2.length →
      ∃ cells' cs, Instr.fill (fun i => some (i * size, size)) cells vs = some cells' ∧ cells'.toList = c1 ++ cs ++ c2.drop (ps.length * size) ∧ Segs (KC E.w E.F t) xs cs
  | [], vs, k, xs, cells, c1, c2, he, hp, hc, h1, h2 => by
    obtain ⟨_, hm⟩ := hp
    cases vs with
    | nil =>
      simp only [elems, Option.some.injEq] at he
      subst he
      exact ⟨cells, [], rfl, by simpa using hc, rfl⟩
    | cons => simp at hm
  | (j, a) :: ps, vs, k, xs, cells, c1, c2, he, hp, hc, h1, h2 => by
    obtain ⟨v, vs', rfl, hv, hp'⟩ := hp.cons
    simp only [elems] at he
    split at he
    · rename_i hj
      subst hj
      split at he
      · rename_i x xs' hx hxs
        simp only [Option.some.injEq] at he
        subst he
        obtain ⟨cs, hk, hcs⟩ := toT_ok hx hv
        simp only [List.length_cons, Nat.succ_mul] at h2
        have hcl : cs.length = size := by rw [hk.len, hsz]
        have e2 : cells.toList = c1 ++ c2.take size ++ c2.drop size := by rw [hc, List.append_assoc, List.take_append_drop]
        rw [fill_step (place := fun i => some (i * size, size)) rfl (by rw [hcs, hcl]) e2 h1 (by rw [List.length_take]; omega)]
        obtain ⟨cells', cs', h3, h4, h5⟩ := elems_ok size hsz ps vs' (j + 1) xs' (c1 ++ v.cells.toList ++ c2.drop size).toArray (c1 ++ v.cells.toList) (c2.drop size) hxs hp' (by simp) (by
          rw [List.length_append, hcs, hcl, h1, Nat.succ_mul]) (by rw [List.length_drop]; omega)
        refine ⟨cells', cs ++ cs', h3, ?_, ⟨cs, cs', rfl, hk, h5⟩⟩
        rw [h4, hcs, List.drop_drop, List.length_cons, Nat.succ_mul, Nat.add_comm size]
        simp
      · cases he
    · cases he

theorem elems_len {t : Ty} : ∀ (ps : List (Nat × CV)) (k : Nat) (xs : List t.D), elems t k ps = some xs → xs.length = ps.length := by
  intro ps
  induction ps with
  | nil => intro k xs h; simp only [elems, Option.some.injEq] at h; subst h; rfl
  | cons p ps ih =>
    intro k xs h
    simp only [elems] at h
    split at h
    · split at h
      · rename_i y ys _ hys
        simp only [Option.some.injEq] at h
        subst h
        simp [ih _ _ hys]
      · cases h
    · cases h

theorem buildArr_ok {i : TInfo} (hX : X.get T = some i) {n : Nat} {e : Ty} (ht : i.t = .arr n e) {ps : List (Nat × CV)} {vs : Array (Nat × Value)} {xs : List e.D} (he : elems e 0 ps = some xs) (hlen : ps.length = n) (hp : PartsR E ps vs.toList) :
    ∃ z, (Instr.build T vs).run P E.w = .ok z E.w ∧ CVR E (.one (.c (.arr n e) xs)) z := by
  obtain ⟨ti, zv, hi1, hi2, hi3, hi4, hi5, hi6⟩ := (X.ok _ i hX).info
  have hu := (X.ok _ i hX).und
  rw [ht] at hu
  obtain ⟨hu, j, hj, rfl, hs⟩ := hu
  obtain ⟨tj, zj, hj1, hj2, _⟩ := (X.ok _ j hj).info
  have hzc : zv.cells.toList = (List.replicate n (zc j.t)).flatten := by rw [hi5, ht]; rfl
  have hzl : ((List.replicate n (zc j.t)).flatten).length = n * j.t.sz := by
    have := (segs_zero (w := E.w) (F := E.F) (t := j.t) n).length (fun _ _ hk => hk.len)
    simpa using this
  obtain ⟨cells', cs, h1, h2, h3⟩ := elems_ok (E := E) j.t.sz rfl ps vs.toList 0 xs zv.cells [] (List.replicate n (zc j.t)).flatten he hp (by simpa using hzc) (by simp) (by rw [hzl, hlen]; exact Nat.le_refl _)
  have hdrop : ((List.replicate n (zc j.t)).flatten).drop (ps.length * j.t.sz) = [] := List.drop_eq_nil_of_le (by rw [hzl, hlen]; exact Nat.le_refl _)
  rw [hdrop] at h2
  refine ⟨.agg cells', run_build E.w T vs cells' ?_, cs, ⟨by rw [elems_len _ _ _ he, hlen], h3⟩, ?_⟩
  · simp only [Program.built, hi1, hu, hi4, hj1, hj2, h1]
  · simp only [mkv, Ty.isAgg, if_true, Value.agg.injEq]
    apply Array.ext'
    simpa using h2

theorem zeros_map (zv : Array Value) (n : Nat) : ((Array.range (n * zv.size)).map (zv[· % zv.size]!)).toList = (List.replicate n zv.toList).flatten := by
  have := zeroCells_toList zv n
  simpa [Builtin.zeroCells] using this

theorem buildSlice_ok (h : HR w0 S E) {i j : TInfo} {t : Ty} (hX : X.get T = some i) (ht : i.t = .sl t) (hj : X.get i.elem = some j) {slot : Nat} (hslot : E.hp[slot]? = some .fresh) {len : Nat} {ps : List (Nat × CV)} {vs : Array (Nat × Value)} {xs : List t.D}
    (he : elems t 0 ps = some xs) (hlen : ps.length = len) (hsmall : len * t.sz ≤ 16777216) (hp : PartsR E ps vs.toList) :
    Comes1 P w0 S E (Instr.buildSlice T len vs) (.one (.ref slot 0 t 0 xs.length)) (E.hp.set slot (.live (.row t xs 0))) := by
  obtain ⟨hu, j', hj', rfl, hs⟩ := X.slice hX ht
  rw [hj] at hj'
  simp only [Option.some.injEq] at hj'
  subst hj'
  obtain ⟨ti, zv, hi1, hi2, hi3, hi4, hi5, hi6⟩ := (X.ok _ j hj).info
  have hz : ∀ w : World, (zeroValue i.elem).run P w = .ok zv w := fun w => by simp [zeroValue, run_typeInfo hi1, hi4]
  have hzsz : zv.cells.size = j.t.sz := by rw [← Array.length_toList, hi5]; exact (KC.zero (w := E.w) (F := E.F)).len
  have hxl : xs.length = len := by
    rw [← hlen]
    have : ∀ (ps : List (Nat × CV)) (k : Nat) (xs : List j.t.D), elems j.t k ps = some xs → xs.length = ps.length := by
      intro ps
      induction ps with
      | nil => intro k xs h; simp only [elems, Option.some.injEq] at h; subst h; rfl
      | cons p ps ih =>
        intro k xs h
        simp only [elems] at h
        split at h
        · split at h
          · rename_i y ys _ hys
            simp only [Option.some.injEq] at h
            subst h
            simp [ih _ _ hys]
          · cases h
        · cases h
    exact this _ _ _ he
  have hzl : ((List.replicate len (zc j.t)).flatten).length = len * j.t.sz := by
    have := (segs_zero (w := E.w) (F := E.F) (t := j.t) len).length (fun _ _ hk => hk.len)
    simpa using this
  by_cases h0 : len = 0
  · subst h0
    have hps : ps = [] := List.eq_nil_of_length_eq_zero hlen
    subst hps
    simp only [elems, Option.some.injEq] at he
    subst he
    have hvs : vs = #[] := by
      obtain ⟨_, hm⟩ := hp
      have : vs.toList = [] := by simpa using hm.symm
      simpa using this
    subst hvs
    obtain ⟨E', k1, k2, k3, k4, k5⟩ := newRow_ok h hslot (t := j.t) [] #[] i.elem 0 [] [] rfl rfl (by simp) ⟨Nat.le_refl 0, Nat.zero_le _⟩ E.w rfl rfl rfl rfl
    refine ⟨_, E', ?_, k2, k3, k4, k5⟩
    have e0 : ∀ f : Nat → Value, Array.map f (Array.range 0) = #[] := fun f => by apply Array.ext'; simp
    simp [Instr.buildSlice, run_underlying hu, X.size hj, Instr.fill, newRow, k1, e0]
  · have hpos : 0 < len * j.t.sz := Nat.mul_pos (by omega) hs
    obtain ⟨cells', cs, h1, h2, h3⟩ := elems_ok (E := E) j.t.sz rfl ps vs.toList 0 xs ((Array.range (len * j.t.sz)).map (zv.cells[· % zv.cells.size]!)) [] (List.replicate len (zc j.t)).flatten he hp (by
      rw [← hzsz, zeros_map, hi5]; rfl) (by simp) (by rw [hzl, hlen]; exact Nat.le_refl _)
    have hdrop : ((List.replicate len (zc j.t)).flatten).drop (ps.length * j.t.sz) = [] := List.drop_eq_nil_of_le (by rw [hzl, hlen]; exact Nat.le_refl _)
    rw [hdrop] at h2
    have hcsz : cells'.size = xs.length * j.t.sz := by
      rw [← Array.length_toList, h2]
      simpa using h3.length (fun _ _ hk => hk.len)
    have hxsmall : xs.length ≤ 140737488355328 := by
      have h9 := Nat.le_mul_of_pos_right len hs
      have h8 : len * j.t.sz ≤ 16777216 := hsmall
      rw [hxl]; omega
    obtain ⟨E', k1, k2, k3, k4, k5⟩ := newRow_ok h hslot (t := j.t) xs cells' i.elem xs.length cs [] (by simpa using h2) h3 (by omega) ⟨Nat.le_refl _, hxsmall⟩ E.w rfl rfl rfl rfl
    rw [hxl] at k5 ⊢
    refine ⟨_, E', ?_, k2, k3, k4, k5⟩
    simp only [Instr.buildSlice, Sem.run_bind, run_underlying hu, Result.andThen_ok, X.size hj, Sem.run_ite]
    rw [if_neg (by omega), if_neg (by omega)]
    simp only [Sem.run_bind, hz, Result.andThen_ok, Sem.run_pure, h1, newRow, run_newObj, k1]

theorem run_asInt (k : IntKind) (n : Int) (w : World) : (asInt (.int k n)).run P w = .ok n w := rfl

theorem wrap_i64 {n : Int} (h0 : -9223372036854775808 ≤ n) (h1 : n ≤ 9223372036854775807) : IntKind.i64.wrap n = n := by
  simp only [IntKind.wrap, IntKind.bits, IntKind.signed, Bool.true_and]
  by_cases h : n % 2 ^ 64 ≥ 2 ^ (64 - 1)
  · rw [if_pos (by simpa using h)]; omega
  · rw [if_neg (by simpa using h)]; omega

theorem makeSlice_ok (h : HR w0 S E) {i j : TInfo} {t : Ty} (hX : X.get T = some i) (ht : i.t = .sl t) (hj : X.get i.elem = some j) {slot : Nat} (hslot : E.hp[slot]? = some .fresh) (n c : Int) (k k' : IntKind) (h0 : 0 ≤ n) (h1 : n ≤ c) (h2 : j.bytes * c ≤ 140737488355328) (hb : 0 < j.bytes) :
    Comes1 P w0 S E (Instr.makeSlice T (.int k n) (.int k' c)) (.one (.ref slot 0 t 0 n.toNat)) (E.hp.set slot (.live (.row t (List.replicate n.toNat t.z) 0))) := by
  obtain ⟨hu, j', hj', rfl, hs⟩ := X.slice hX ht
  rw [hj] at hj'
  simp only [Option.some.injEq] at hj'
  subst hj'
  obtain ⟨ti, zv, hi1, hi2, hi3, hi4, hi5, hi6⟩ := (X.ok _ j hj).info
  have hz : ∀ w : World, (zeroValue i.elem).run P w = .ok zv w := fun w => by simp [zeroValue, run_typeInfo hi1, hi4]
  have hzsz : zv.cells.size = j.t.sz := by rw [← Array.length_toList, hi5]; exact (KC.zero (w := E.w) (F := E.F)).len
  have hc : c ≤ 140737488355328 := by
    have : (1 : Int) * c ≤ j.bytes * c := Int.mul_le_mul_of_nonneg_right (by omega) (by omega)
    omega
  have hwn : IntKind.i64.wrap n = n := wrap_i64 (by omega) (by omega)
  have hwc : IntKind.i64.wrap c = c := wrap_i64 (by omega) (by omega)
  have hcast : ¬ (((ti.bytes : Nat) : Int) * c > 2 ^ 48) := by rw [hi3]; omega
  by_cases hc0 : c.toNat * j.t.sz = 0
  · have hcz : c.toNat = 0 := by rcases Nat.mul_eq_zero.1 hc0 with h | h <;> omega
    have hn0 : n.toNat = 0 := by omega
    rw [hn0]
    obtain ⟨E', k1, k2, k3, k4, k5⟩ := newRow_ok h hslot (t := j.t) [] #[] i.elem 0 [] [] rfl rfl (by simp) ⟨Nat.le_refl 0, Nat.zero_le _⟩ E.w rfl rfl rfl rfl
    refine ⟨_, E', ?_, k2, k3, k4, k5⟩
    have hc' : c = 0 := by omega
    have hn' : n = 0 := by omega
    subst hc' hn'
    have e0 : ∀ f : Nat → Value, Array.map f (Array.range 0) = #[] := fun f => by apply Array.ext'; simp
    simp [Instr.makeSlice, run_underlying hu, run_asInt, run_typeInfo hi1, hwn, X.size hj, newRow, k1, e0]
  · obtain ⟨E', k1, k2, k3, k4, k5⟩ := newRow_ok h hslot (t := j.t) (List.replicate n.toNat j.t.z) ((Array.range (c.toNat * j.t.sz)).map (zv.cells[· % zv.cells.size]!)) i.elem c.toNat (List.replicate n.toNat (zc j.t)).flatten (List.replicate (c.toNat - n.toNat) (zc j.t)).flatten
      (by rw [← hzsz, zeros_map, hi5, ← List.flatten_append, List.replicate_append_replicate]; congr 2; omega) (segs_zero _) (by simp) (by simp; omega) E.w rfl rfl rfl rfl
    rw [List.length_replicate] at k5
    refine ⟨_, E', ?_, k2, k3, k4, k5⟩
    have hcond : ¬ (((decide (c < 0) || decide (((ti.bytes : Nat) : Int) * c > 2 ^ 48)) || decide (n < 0) || decide (n > c)) = true) := by
      simp only [Bool.or_eq_true, decide_eq_true_eq]; omega
    simp only [Instr.makeSlice, Sem.run_bind, run_underlying hu, Result.andThen_ok, run_asInt, run_typeInfo hi1, hwn, hwc, X.size hj, run_askRoom, Sem.run_ite]
    rw [if_neg hcond, if_neg hc0]
    simp only [hz, Result.andThen_ok, Sem.run_pure, newRow, Sem.run_bind, run_newObj, k1]

/-- A cut. -/
def sliceF {P : Program} (X : Tbl P) (T : TypeId) (hp : List HC) (lo hi mx : Option Int) : SV → Option (Prop × SV)
  | .c (.sl e) xs => match X.get T with
    | some i => if i.t = .sl e then
        some (0 ≤ lo.getD 0 ∧ lo.getD 0 ≤ hi.getD ((xs : List e.D).length : Int) ∧ hi.getD ((xs : List e.D).length : Int) ≤ ((xs : List e.D).length : Int) ∧ (∀ m, mx = some m → hi.isSome = true ∧ hi.getD 0 ≤ m ∧ m ≤ ((xs : List e.D).length : Int)),
          .c (.sl e) ((List.take (hi.getD ((xs : List e.D).length : Int)).toNat (xs : List e.D)).drop (lo.getD 0).toNat)) else none
    | none => none
  | .c .str s => match X.get T with
    | some i => if i.t = .str ∧ mx = none then
        some (0 ≤ lo.getD 0 ∧ lo.getD 0 ≤ hi.getD (ByteArray.size s : Int) ∧ hi.getD (ByteArray.size s : Int) ≤ (ByteArray.size s : Int),
          .c .str (ByteArray.extract s (lo.getD 0).toNat (hi.getD (ByteArray.size s : Int)).toNat)) else none
    | none => none
  | .ref id ver t off len => match X.get T, rowOf hp id ver t with
    | some i, some xs => if i.t = .sl t ∧ mx = none then
        some (0 ≤ lo.getD 0 ∧ lo.getD 0 ≤ hi.getD (len : Int) ∧ (off : Int) + hi.getD (len : Int) ≤ (xs.length : Int), .ref id ver t (off + (lo.getD 0).toNat) ((hi.getD (len : Int)).toNat - (lo.getD 0).toNat)) else none
    | _, _ => none
  | _ => none

theorem sliceBound_run {k : IntKind} {n : Int} {y : Nat} {code : BoundsCode} (h0 : 0 ≤ n) (h1 : n ≤ (y : Int)) (w : World) : (Instr.sliceBound (.int k n) y code).run P w = .ok n.toNat w := by
  simp [Instr.sliceBound, run_asIntOf, h0, h1]

theorem sliceBounds_run (isS : Bool) {len cap : Nat} {k1 k2 k3 : IntKind} {lo hi mx : Option Int} (hl : len ≤ cap) (h0 : 0 ≤ lo.getD 0) (h1 : lo.getD 0 ≤ hi.getD len) (h2 : hi.getD len ≤ (cap : Int)) (h3 : ∀ m, mx = some m → hi.isSome = true ∧ hi.getD 0 ≤ m ∧ m ≤ (cap : Int)) (w : World) :
    (Instr.sliceBounds isS len cap (lo.map (Value.int k1)) (hi.map (Value.int k2)) (mx.map (Value.int k3))).run P w = .ok ((lo.getD 0).toNat, (hi.getD len).toNat, (mx.getD cap).toNat) w := by
  cases mx with
  | none =>
    cases hi with
    | none =>
      simp only [Option.getD_none, Option.map_none] at h1 h2 ⊢
      cases lo with
      | none => simp [Instr.sliceBounds]
      | some l =>
        simp only [Option.getD_some, Option.map_some] at h0 h1 ⊢
        simp [Instr.sliceBounds, sliceBound_run h0 h1]
    | some q =>
      simp only [Option.getD_some, Option.map_some, Option.getD_none, Option.map_none] at h1 h2 ⊢
      have hq0 : 0 ≤ q := by omega
      cases lo with
      | none => simp [Instr.sliceBounds, sliceBound_run hq0 h2]
      | some l =>
        simp only [Option.getD_some, Option.map_some] at h0 h1 ⊢
        have h1' : l ≤ ((q.toNat : Nat) : Int) := by omega
        simp [Instr.sliceBounds, sliceBound_run hq0 h2, sliceBound_run h0 h1']
  | some m =>
    obtain ⟨hs, h4, h5⟩ := h3 m rfl
    cases hi with
    | none => cases hs
    | some q =>
      simp only [Option.getD_some, Option.map_some] at h1 h2 h4 ⊢
      have hq0 : 0 ≤ q := by omega
      have hm0 : 0 ≤ m := by omega
      have h4' : q ≤ ((m.toNat : Nat) : Int) := by omega
      cases lo with
      | none => simp [Instr.sliceBounds, sliceBound_run hm0 h5, sliceBound_run hq0 h4']
      | some l =>
        simp only [Option.getD_some, Option.map_some] at h0 h1 ⊢
        have h1' : l ≤ ((q.toNat : Nat) : Int) := by omega
        simp [Instr.sliceBounds, sliceBound_run hm0 h5, sliceBound_run hq0 h4', sliceBound_run h0 h1']

theorem sliceF_ok (h : HR w0 S E) {lo hi mx : Option Int} {a r : SV} {p : Prop} {v : Value} (hr : sliceF X T E.hp lo hi mx a = some (p, r)) (hp : p) (hv : SVR E a v) (k1 k2 k3 : IntKind) :
    ∃ z, (Instr.sliceAt T v (lo.map (Value.int k1)) (hi.map (Value.int k2)) (mx.map (Value.int k3))).run P E.w = .ok z E.w ∧ CVR E (.one r) z := by
  cases a with
  | c t x =>
    cases t with
    | sl e =>
      simp only [sliceF] at hr
      split at hr
      · rename_i i hX
        split at hr
        · rename_i ht
          simp only [Option.some.injEq, Prod.mk.injEq] at hr
          obtain ⟨rfl, rfl⟩ := hr
          obtain ⟨h0, h1, h2, h3⟩ := hp
          obtain ⟨hu, j, hj, hje, hs⟩ := X.slice hX ht
          obtain ⟨cs, ⟨A, c, rfl, hc, hk⟩, rfl⟩ := hv
          generalize hq : (lo.getD 0).toNat = l
          generalize hg : (hi.getD ((x : List e.D).length : Int)).toNat = g
          have hg2 : g ≤ (x : List e.D).length := by omega
          have hlg : l ≤ g := by omega
          have hlen : ((List.take g (x : List e.D)).drop l).length = g - l := by rw [List.length_drop, List.length_take]; omega
          have hcap : ∀ m, mx = some m → hi.isSome = true ∧ hi.getD 0 ≤ m ∧ m ≤ (c : Int) := fun m hm => by obtain ⟨a, b, d⟩ := h3 m hm; exact ⟨a, b, by omega⟩
          have hrun := sliceBounds_run (P := P) true (k1 := k1) (k2 := k2) (k3 := k3) hc.1 h0 h1 (by omega) hcap E.w
          rw [hq, hg] at hrun
          have hm : mkv (.sl e) [Value.slice A (x : List e.D).length c] = Value.slice A (x : List e.D).length c := rfl
          rw [hm]
          refine ⟨.slice (if (mx.getD (c : Int)).toNat = l then A else A.map (·.add (l * e.sz))) (g - l) ((mx.getD (c : Int)).toNat - l), ?_, [_], ⟨_, _, by rw [hlen], ?_, fun hne => ?_⟩, rfl⟩
          · simp only [Instr.sliceAt, Sem.run_bind, run_underlying hu, Result.andThen_ok, Instr.slice, hrun, X.size hj, hje, Sem.run_pure]
          · rw [hlen]
            have : g ≤ (mx.getD (c : Int)).toNat := by
              cases hmx : mx with
              | none => simp; omega
              | some m =>
                obtain ⟨a, b, d⟩ := h3 m hmx
                obtain ⟨q, hq'⟩ := Option.isSome_iff_exists.1 a
                rw [hq'] at hg b
                simp only [Option.getD_some] at hg b ⊢
                omega
            omega
          · have hlt : l < g := by
              rcases Nat.lt_or_ge l g with h | h
              · exact h
              · have : ((List.take g (x : List e.D)).drop l).length = 0 := by omega
                exact absurd (List.eq_nil_of_length_eq_zero this) hne
            have hmx : (mx.getD (c : Int)).toNat ≠ l := by
              cases hmx : mx with
              | none => simp; omega
              | some m =>
                obtain ⟨a, b, d⟩ := h3 m hmx
                obtain ⟨q, hq'⟩ := Option.isSome_iff_exists.1 a
                rw [hq'] at hg b
                simp only [Option.getD_some] at hg b ⊢
                omega
            obtain ⟨b, o, rfl, hF, hk⟩ := hk (by intro e0; rw [e0] at hg2; simp at hg2; omega)
            rw [if_neg hmx]
            refine ⟨b, o + l * e.sz, by simp [add_off], hF, fun q y hy => ?_⟩
            rw [List.getElem?_drop, List.getElem?_take] at hy
            split at hy
            · obtain ⟨ec, h5, h6⟩ := hk (l + q) y hy
              exact ⟨ec, h5, by rw [Nat.add_mul, ← Nat.add_assoc] at h6; exact h6⟩
            · cases hy
        · cases hr
      · cases hr
    | str =>
      simp only [sliceF] at hr
      split at hr
      · rename_i i hX
        split at hr
        · rename_i hc
          obtain ⟨ht, rfl⟩ := hc
          simp only [Option.some.injEq, Prod.mk.injEq] at hr
          obtain ⟨rfl, rfl⟩ := hr
          obtain ⟨h0, h1, h2⟩ := hp
          have hu := (X.ok _ i hX).und
          rw [ht] at hu
          rw [oneStr hv]
          have hrun := sliceBounds_run (P := P) false (k1 := k1) (k2 := k2) (k3 := k3) (mx := none) (Nat.le_refl _) h0 h1 h2 (fun m hm => by cases hm) E.w
          refine ⟨_, ?_, isStr⟩
          simp only [Option.map_none] at hrun ⊢
          simp only [Instr.sliceAt, Sem.run_bind, run_underlying hu, Result.andThen_ok, Instr.slice, Option.isSome_none, Bool.false_eq_true, if_false, hrun, Sem.run_pure]
        · cases hr
      · cases hr
    | _ => simp [sliceF] at hr
  | ref id ver t off len =>
    simp only [sliceF] at hr
    split at hr
    · rename_i i xs hX hb
      have hb := rowOf_some hb
      split at hr
      · rename_i hc
        obtain ⟨ht, rfl⟩ := hc
        simp only [Option.some.injEq, Prod.mk.injEq] at hr
        obtain ⟨rfl, rfl⟩ := hr
        obtain ⟨h0, h1, h2⟩ := hp
        obtain ⟨hu, j, hj, hje, hs⟩ := X.slice hX ht
        obtain ⟨hn, hv1⟩ := hv
        have hv2 := (hv1 xs ver hb).2 rfl
        clear hv1
        obtain ⟨hle, hv3⟩ := hv2
        have hroot := h.root id _ hb
        simp only [RootR] at hroot
        generalize hq : (lo.getD 0).toNat = l
        generalize hg : (hi.getD (len : Int)).toNat = g
        have hlg : l ≤ g := by omega
        have hxg : off + g ≤ xs.length := by omega
        cases hloc : E.loc id with
        | none =>
          rw [hloc] at hroot hv3
          subst hroot
          simp at hxg
          obtain ⟨rfl, rfl⟩ := hxg
          have hl0 : l = 0 := by omega
          subst hl0
          simp at hle
          subst hle
          subst hv3
          have hrun := sliceBounds_run (P := P) true (k1 := k1) (k2 := k2) (k3 := k3) (len := 0) (cap := 0) (mx := none) (Nat.le_refl _) h0 h1 (by simpa using h2) (fun m hm => by cases hm) E.w
          rw [hq, hg] at hrun
          simp only [Option.map_none] at hrun ⊢
          refine ⟨.slice none 0 0, by simp only [Instr.sliceAt, Sem.run_bind, run_underlying hu, Result.andThen_ok, Instr.slice, hrun, X.size hj, Sem.run_pure]; rfl, hn, fun xs' ver' hb' => ?_⟩
          rw [hb] at hb'
          simp only [Option.some.injEq, HC.live.injEq, Root.row.injEq, heq_eq_eq, true_and] at hb'
          obtain ⟨rfl, rfl⟩ := hb'
          exact ⟨Nat.le_refl _, fun _ => ⟨by simp, by rw [hloc]⟩⟩
        | some lc =>
          rw [hloc] at hroot hv3
          obtain ⟨A, rfl, hA⟩ := hv3
          obtain ⟨ty, cells, hcb, hcap, hlen, hrow⟩ := hroot
          have hrun := sliceBounds_run (P := P) true (k1 := k1) (k2 := k2) (k3 := k3) (len := len) (cap := lc.cap - off) (mx := none) (by omega) h0 h1 (by omega) (fun m hm => by cases hm) E.w
          rw [hq, hg] at hrun
          simp only [Option.map_none, Option.getD_none, Int.toNat_natCast] at hrun ⊢
          refine ⟨.slice (if lc.cap - off = l then A else A.map (·.add (l * t.sz))) (g - l) (lc.cap - off - l), ?_, hn, fun xs' ver' hb' => ?_⟩
          · simp only [Instr.sliceAt, Sem.run_bind, run_underlying hu, Result.andThen_ok, Instr.slice, hrun, X.size hj, hje, Sem.run_pure]
          · rw [hb] at hb'
            simp only [Option.some.injEq, HC.live.injEq, Root.row.injEq, heq_eq_eq, true_and] at hb'
            obtain ⟨rfl, rfl⟩ := hb'
            refine ⟨Nat.le_refl _, fun _ => ⟨by omega, ?_⟩⟩
            rw [hloc]
            refine ⟨_, by rw [Nat.sub_sub], fun hlt => ?_⟩
            rw [if_neg (by omega), hA (by omega)]
            simp [add_off, Nat.add_mul, Nat.add_assoc]
      · cases hr
    · cases hr
  | _ => simp [sliceF] at hr

/-- How long? -/
def lenF {P : Program} (X : Tbl P) (T : TypeId) (hp : List HC) : SV → Option Int
  | .c (.sl e) xs => match X.get T with
    | some i => if isSl i.t = true then some ((xs : List e.D).length : Int) else none
    | none => none
  | .c .str s => match X.get T with
    | some i => if i.t = .str then some (ByteArray.size s : Int) else none
    | none => none
  | .nl _ => match X.get T with
    | some i => if isSl i.t = true then some 0 else none
    | none => none
  | .ref id ver t off len => match X.get T, rowOf hp id ver t with
    | some i, some _ => if isSl i.t = true then some (len : Int) else none
    | _, _ => none
  | _ => none

theorem isSl_und {i : TInfo} (hX : X.get T = some i) (ht : isSl i.t = true) : P.underlying T = some (.slice i.elem) := by
  cases e : i.t with
  | sl t => exact (X.slice hX e).1
  | _ => rw [e] at ht; cases ht

theorem lenF_ok (h : HR w0 S E) {a : SV} {n : Int} {v : Value} (hr : lenF X T E.hp a = some n) (hv : SVR E a v) (ty : TypeId) : (Builtin.len_ #[T] ty #[v]).run P E.w = .ok (.int .i64 n) E.w := by
  cases a with
  | c t x =>
    cases t with
    | sl e =>
      simp only [lenF] at hr
      split at hr
      · rename_i i hX
        split at hr
        · rename_i ht
          simp only [Option.some.injEq] at hr
          subst hr
          obtain ⟨cs, ⟨A, c, rfl, _⟩, rfl⟩ := hv
          simp [Builtin.len_, run_underlying (isSl_und hX ht), mkv, Ty.isAgg, goInt]
        · cases hr
      · cases hr
    | str =>
      simp only [lenF] at hr
      split at hr
      · rename_i i hX
        split at hr
        · rename_i ht
          simp only [Option.some.injEq] at hr
          subst hr
          have hu := (X.ok _ i hX).und
          rw [ht] at hu
          rw [oneStr hv]
          simp [Builtin.len_, run_underlying hu, goInt]
        · cases hr
      · cases hr
    | _ => simp [lenF] at hr
  | nl t =>
    simp only [lenF] at hr
    split at hr
    · rename_i i hX
      split at hr
      · rename_i ht
        simp only [Option.some.injEq] at hr
        subst hr
        rw [show v = _ from hv]
        simp [Builtin.len_, run_underlying (isSl_und hX ht), goInt]
      · cases hr
    · cases hr
  | ref id ver t off len =>
    simp only [lenF] at hr
    split at hr
    · rename_i i xs hX hb
      split at hr
      · rename_i ht
        simp only [Option.some.injEq] at hr
        subst hr
        have hb := rowOf_some hb
        obtain ⟨hn, hv1⟩ := hv
        obtain ⟨hle, hv3⟩ := (hv1 xs ver hb).2 rfl
        have hroot := h.root id _ hb
        simp only [RootR] at hroot
        split at hv3
        · rename_i hl
          rw [hl] at hroot
          subst hroot
          simp at hle
          obtain ⟨_, rfl⟩ := hle
          subst hv3
          simp [Builtin.len_, run_underlying (isSl_und hX ht), goInt]
        · obtain ⟨A, rfl, _⟩ := hv3
          simp [Builtin.len_, run_underlying (isSl_und hX ht), goInt]
      · cases hr
    · cases hr
  | _ => simp [lenF] at hr
end
end Go.Proofs.Ytgkjgpiggjjmpaa.Ev
