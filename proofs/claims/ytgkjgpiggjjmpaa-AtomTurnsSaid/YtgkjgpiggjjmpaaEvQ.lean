/- Lemmas for the claim: Equality of structs and arrays. (no condition.) -/
import Derived.Test.YtgkjgpiggjjmpaaEv14
import Derived.Laws.StructEq
import Derived.ChangeKeysEq
/-! Equality of structs and arrays. -/
namespace Go.Proofs.Ytgkjgpiggjjmpaa.Ev
open Go
set_option linter.unusedVariables false

section
variable {P : Program}
def EqAtT (P : Program) (d : Nat) (T : TypeId) (t : Ty) : Prop := ∀ (x y : t.D) (w : World) (F : Nat → Prop) (cs ds : List Value), KC w F t x cs → KC w F t y ds →
  (Op.equalIn d T (mkv t cs) (mkv t ds)).run P w = .ok (t.eqb x y) w

theorem eqInt {k : IntKind} {T : TypeId} (h : P.underlying T = some (.int k)) (d : Nat) : EqAtT P (d + 1) T (.int k) := by
  intro x y w F cs ds h1 h2
  cases h1; cases h2
  exact run_equalIn_int w d T k k x y h
theorem eqBool {T : TypeId} (h : P.underlying T = some .bool) (d : Nat) : EqAtT P (d + 1) T .bool := by
  intro x y w F cs ds h1 h2
  cases h1; cases h2
  exact run_equalIn_bool' w d T x y h

def FldsEq (P : Program) (get : TypeId → Option TInfo) (d : Nat) : List Field → Nat → Ty → Prop
  | [], _, .unit => True
  | f :: fs, off, .pair a b => f.name ≠ "_" ∧ f.offset = off ∧ (∃ j, get f.type = some j ∧ j.t = a) ∧ EqAtT P d f.type a ∧ FldsEq P get d fs (off + a.sz) b
  | _, _, _ => False

theorem eqFields_ok (X : Tbl P) {d : Nat} : ∀ (fs : List Field) (off : Nat) (t : Ty), FldsEq P X.get d fs off t → ∀ (x y : t.D) (w : World) (F : Nat → Prop) (p q cs ds : List Value), KC w F t x cs → KC w F t y ds →
    p.length = off → q.length = off → (Op.eqFields d (p ++ cs).toArray (q ++ ds).toArray fs).run P w = .ok (t.eqb x y) w
  | [], off, t, h, x, y, w, F, p, q, cs, ds, h1, h2, hp, hq => by
    cases t <;> first | exact h.elim | skip
    simp [Op.eqFields, Ty.eqb]
  | f :: fs, off, t, h, x, y, w, F, p, q, cs, ds, h1, h2, hp, hq => by
    cases t <;> first | exact h.elim | skip
    rename_i a b
    obtain ⟨hn, ho, ⟨j, hj, ej⟩, he, hr⟩ := h
    obtain ⟨c1, c2, rfl, k1, k2⟩ := h1
    obtain ⟨d1, d2, rfl, l1, l2⟩ := h2
    subst ej
    have hone : j.t.isAgg = false → ∀ {c : List Value}, c.length = j.t.sz → c.length = 1 := fun h c hc => by rw [hc, Ty.one_of h]
    have e1 : (part f.type (p ++ (c1 ++ c2)).toArray f.offset).run P w = .ok (mkv j.t c1) w := by
      have := part_run (X := X) hj (c1 := p) (c3 := c2) k1.len (fun h => hone h k1.len) w
      rwa [List.append_assoc, hp, ← ho] at this
    have e2 : (part f.type (q ++ (d1 ++ d2)).toArray f.offset).run P w = .ok (mkv j.t d1) w := by
      have := part_run (X := X) hj (c1 := q) (c3 := d2) l1.len (fun h => hone h l1.len) w
      rwa [List.append_assoc, hq, ← ho] at this
    have ih := eqFields_ok X fs (off + j.t.sz) b hr x.2 y.2 w F (p ++ c1) (q ++ d1) c2 d2 k2 l2 (by rw [List.length_append, hp, k1.len]) (by rw [List.length_append, hq, l1.len])
    simp only [Op.eqFields, if_pos hn, Sem.run_bind, e1, e2, Result.andThen_ok, he x.1 y.1 w F c1 d1 k1 l1]
    simp only [List.append_assoc] at ih
    cases hb : j.t.eqb x.1 y.1
    · simp [Ty.eqb, hb]
    · simp only [Bool.not_true, Bool.false_eq_true, if_false, ih, Ty.eqb, hb, Bool.true_and]

theorem eqStruct (X : Tbl P) {d : Nat} {T : TypeId} {t : Ty} {fs : Array Field} (hu : P.underlying T = some (.struct fs)) (hs : P.stoodInHeld T = false) (ha : t.isAgg = true) (h : FldsEq P X.get d fs.toList 0 t) : EqAtT P (d + 1) T t := by
  intro x y w F cs ds h1 h2
  have hf : P.fieldsOf T = fs := by simp [Program.fieldsOf, hu]
  have := run_equalIn_struct w d T cs.toArray ds.toArray (by rw [hf]; exact hu) hs
  simp only [mkv, ha, if_true, this, hf]
  have := eqFields_ok X fs.toList 0 t h x y w F [] [] cs ds h1 h2 rfl rfl
  simpa using this

theorem eqItems_ok (X : Tbl P) {d : Nat} {u : TypeId} {j : TInfo} (hj : X.get u = some j) (he : EqAtT P d u j.t) {w : World} {F : Nat → Prop} : ∀ (xs ys : List j.t.D) (k : Nat) (p q cs ds : List Value), xs.length = ys.length → Segs (KC w F j.t) xs cs → Segs (KC w F j.t) ys ds →
    p.length = k * j.t.sz → q.length = k * j.t.sz → (Op.eqItems d u j.t.sz (p ++ cs).toArray (q ++ ds).toArray (List.range' k xs.length)).run P w = .ok ((xs.zip ys).all fun r => j.t.eqb r.1 r.2) w
  | [], [], k, p, q, cs, ds, hl, h1, h2, hp, hq => by simp [Op.eqItems]
  | x :: xs, y :: ys, k, p, q, _, _, hl, ⟨c1, c2, rfl, k1, k2⟩, ⟨d1, d2, rfl, l1, l2⟩, hp, hq => by
    have hone : j.t.isAgg = false → ∀ {c : List Value}, c.length = j.t.sz → c.length = 1 := fun h c hc => by rw [hc, Ty.one_of h]
    have e1 : (part u (p ++ (c1 ++ c2)).toArray (k * j.t.sz)).run P w = .ok (mkv j.t c1) w := by
      have := part_run (X := X) hj (c1 := p) (c3 := c2) k1.len (fun h => hone h k1.len) w
      rwa [List.append_assoc, hp] at this
    have e2 : (part u (q ++ (d1 ++ d2)).toArray (k * j.t.sz)).run P w = .ok (mkv j.t d1) w := by
      have := part_run (X := X) hj (c1 := q) (c3 := d2) l1.len (fun h => hone h l1.len) w
      rwa [List.append_assoc, hq] at this
    have ih := eqItems_ok X hj he xs ys (k + 1) (p ++ c1) (q ++ d1) c2 d2 (by simpa using hl) k2 l2 (by rw [List.length_append, hp, k1.len, Nat.succ_mul]) (by rw [List.length_append, hq, l1.len, Nat.succ_mul])
    simp only [List.append_assoc] at ih
    simp only [List.length_cons, List.range'_succ, Op.eqItems, Sem.run_bind, e1, e2, Result.andThen_ok, he x y w F c1 d1 k1 l1]
    cases hb : j.t.eqb x y
    · simp [hb]
    · simp only [Bool.not_true, Bool.false_eq_true, if_false, ih, List.zip_cons_cons, List.all_cons, hb, Bool.true_and]

theorem eqArr (X : Tbl P) {d : Nat} {T u : TypeId} {n : Nat} {j : TInfo} (hu : P.underlying T = some (.array n u)) (hj : X.get u = some j) (he : EqAtT P d u j.t) : EqAtT P (d + 1) T (.arr n j.t) := by
  intro x y w F cs ds h1 h2
  obtain ⟨n1, s1⟩ := h1
  obtain ⟨n2, s2⟩ := h2
  obtain ⟨ti, zv, hi, hsz, _⟩ := (X.ok u j hj).info
  have hc : P.cellsOf u = j.t.sz := by simp [Program.cellsOf, hi, hsz]
  have := run_equalIn_array w d cs.toArray ds.toArray hu hi
  simp only [mkv, Ty.isAgg, if_true, this, hc]
  have := eqItems_ok X hj he x y 0 [] [] cs ds (by rw [n1, n2]) s1 s2 (by simp) (by simp)
  rw [n1, ← List.range_eq_range'] at this
  exact this
end
end Go.Proofs.Ytgkjgpiggjjmpaa.Ev
