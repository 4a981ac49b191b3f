/- Lemmas for the claim: What the evaluator knows of types; reading. (no condition.) -/
import Derived.Test.YtgkjgpiggjjmpaaEv3
import Derived.Laws.Sem
/-! What the evaluator knows of types; reading. -/
namespace Go.Proofs.Ytgkjgpiggjjmpaa.Ev
open Go
set_option linter.unusedVariables false

structure TInfo where
  t : Ty
  flds : List (Nat × TypeId)
  elem : TypeId
  bytes : Nat

def zc : Ty → List Value
  | .int k => [.int k 0]
  | .bool => [.bool false]
  | .str => [.string ByteArray.empty]
  | .unit => []
  | .pair a b => zc a ++ zc b
  | .arr n e => (List.replicate n (zc e)).flatten
  | .sl _ => [.slice none 0 0]

/-- The way to field k. -/
def fpath : Nat → List Step
  | 0 => [.fst]
  | n + 1 => .snd :: fpath n

structure InfoOk (P : Program) (get : TypeId → Option TInfo) (T : TypeId) (i : TInfo) : Prop where
  info : ∃ ti zv, P.info? T = some ti ∧ ti.size = i.t.sz ∧ ti.bytes = i.bytes ∧ ti.zero = some zv ∧ zv.cells.toList = zc i.t ∧ zv = mkv i.t (zc i.t)
  und : match i.t with
    | .int k => P.underlying T = some (.int k)
    | .bool => P.underlying T = some .bool
    | .str => P.underlying T = some .string
    | .unit => (∃ fs, P.underlying T = some (.struct fs)) ∧ i.flds = []
    | .pair _ _ => ∃ fs, P.underlying T = some (.struct fs) ∧ fs.toList.map (fun f => (f.offset, f.type)) = i.flds ∧
        ∀ k o u, i.flds[k]? = some (o, u) → ∃ j, get u = some j ∧ i.t.part (fpath k) = some (o, j.t) ∧ 0 < j.t.sz
    | .arr n e => P.underlying T = some (.array n i.elem) ∧ ∃ j, get i.elem = some j ∧ j.t = e ∧ 0 < e.sz
    | .sl e => P.underlying T = some (.slice i.elem) ∧ ∃ j, get i.elem = some j ∧ j.t = e ∧ 0 < e.sz

structure Tbl (P : Program) where
  get : TypeId → Option TInfo
  ok : ∀ T i, get T = some i → InfoOk P get T i
  eq : TypeId → Bool
  frz : Nat → Bool
  eqok : ∀ T i, get T = some i → eq T = true → P.eqGuardType P.depth T = false ∧ ∀ (x y : i.t.D) (w : World) (F : Nat → Prop) (cs ds : List Value), KC w F i.t x cs → KC w F i.t y ds →
    (Op.equal T (mkv i.t cs) (mkv i.t ds)).run P w = .ok (i.t.eqb x y) w

def nleaves : Ty → Nat
  | .pair a b => nleaves a + nleaves b
  | .unit => 0
  | _ => 1

/-- A value's pieces. -/
def expl : (t : Ty) → t.D → List SV
  | .pair a b, x => expl a x.1 ++ expl b x.2
  | .unit, _ => []
  | t, x => [.c t x]

def Ty.isPair : Ty → Bool
  | .pair _ _ | .unit => true
  | _ => false

theorem Segs.append {α : Type} {R : α → List Value → Prop} : ∀ {xs ys : List α} {c1 c2 : List Value}, Segs R xs c1 → Segs R ys c2 → Segs R (xs ++ ys) (c1 ++ c2)
  | [], _, _, _, h1, h2 => by cases h1; exact h2
  | x :: xs, _, _, _, ⟨a, b, e, h, h1⟩, h2 => ⟨a, b ++ _, by rw [e, List.append_assoc], h, h1.append h2⟩

theorem Segs.split {α : Type} {R : α → List Value → Prop} : ∀ {xs ys : List α} {cs : List Value}, Segs R (xs ++ ys) cs → ∃ c1 c2, cs = c1 ++ c2 ∧ Segs R xs c1 ∧ Segs R ys c2
  | [], _, cs, h => ⟨[], cs, rfl, rfl, h⟩
  | x :: xs, _, _, ⟨a, b, e, h, h1⟩ => by
    obtain ⟨c1, c2, e', h2, h3⟩ := h1.split
    exact ⟨a ++ c1, c2, by rw [e, e', List.append_assoc], ⟨a, c1, rfl, h, h2⟩, h3⟩

theorem SVC.len {E : Env} {a : SV} {cs : List Value} (h : SVC E a cs) : cs.length = a.size := by
  cases a with
  | c t x => exact KC.len h
  | _ => obtain ⟨v, e, _⟩ := h; rw [e]; rfl

theorem segs_sumsz {E : Env} : ∀ {l : List SV} {cs : List Value}, Segs (SVC E) l cs → cs.length = sumsz l
  | [], _, h => by cases h; rfl
  | a :: l, _, ⟨c1, c2, e, h1, h2⟩ => by rw [e, List.length_append, h1.len, segs_sumsz h2]; rfl

theorem KC.expl {E : Env} : ∀ {t : Ty} {x : t.D} {cs : List Value}, KC E.w E.F t x cs → Segs (SVC E) (expl t x) cs
  | .pair a b, x, _, ⟨c1, c2, e, h1, h2⟩ => by rw [e]; exact (KC.expl h1).append (KC.expl h2)
  | .unit, _, _, h => h
  | .int k, x, cs, h => ⟨cs, [], by simp, h, rfl⟩
  | .bool, x, cs, h => ⟨cs, [], by simp, h, rfl⟩
  | .str, x, cs, h => ⟨cs, [], by simp, h, rfl⟩
  | .arr n e, x, cs, h => ⟨cs, [], by simp, h, rfl⟩
  | .sl e, x, cs, h => ⟨cs, [], by simp, h, rfl⟩

theorem sumsz_expl : ∀ {t : Ty} {x : t.D}, sumsz (expl t x) = t.sz
  | .pair a b, x => by
    have h1 := sumsz_expl (t := a) (x := x.1)
    have h2 := sumsz_expl (t := b) (x := x.2)
    have : ∀ l l' : List SV, sumsz (l ++ l') = sumsz l + sumsz l' := fun l l' => by
      induction l with
      | nil => simp [sumsz]
      | cons a l ih => simp only [List.cons_append, sumsz, ih]; omega
    rw [Ev.expl, this, h1, h2]; rfl
  | .unit, _ => rfl
  | .int k, x => rfl
  | .bool, x => rfl
  | .str, x => rfl
  | .arr n e, x => by simp [Ev.expl, sumsz, SV.size]
  | .sl e, x => rfl

/-! ### Reading memory -/
section
variable {P : Program}

theorem add_off (b o n : Nat) : (⟨b, o, none⟩ : Addr).add n = ⟨b, o + n, none⟩ := by
  unfold Addr.add; split
  · rename_i h; subst h; simp
  · rfl

theorem run_load1 {w : World} {a : Addr} {v : Value} (h : w.cell? a = some v) : (load a).run P w = .ok v w := by simp [h]

theorem run_loadCellsFrom {w : World} {b o : Nat} : ∀ (cs : List Value) (i : Nat) (acc : Array Value), CellsAt w b (o + i) cs →
    (loadCellsFrom ⟨b, o, none⟩ i cs.length acc).run P w = .ok (acc ++ cs.toArray) w
  | [], i, acc, h => by simp [loadCellsFrom]
  | c :: cs, i, acc, h => by
    have h0 := h 0 c rfl
    have := run_loadCellsFrom cs (i + 1) (acc.push c) (fun j v hj => by have := h (j + 1) v (by simpa using hj); rw [show o + (i + 1) + j = o + i + (j + 1) by omega]; exact this)
    simp only [List.length_cons, loadCellsFrom, Sem.run_bind, add_off, run_load1 (by simpa using h0), Result.andThen_ok, this]
    simp

theorem run_loadCells {w : World} {b o : Nat} {cs : List Value} (h : CellsAt w b o cs) : (loadCells ⟨b, o, none⟩ cs.length).run P w = .ok cs.toArray w := by
  have := run_loadCellsFrom (P := P) cs 0 #[] (by simpa using h)
  simpa [loadCells] using this

theorem run_typeInfo {T : TypeId} {ti : TypeInfo} (h : P.info? T = some ti) (w : World) : (typeInfo T).run P w = .ok ti w := by
  simp [typeInfo, h]
theorem run_underlying {T : TypeId} {d : TypeDesc} (h : P.underlying T = some d) (w : World) : (underlying T).run P w = .ok d w := by
  simp [underlying, h]
theorem run_sizeOf {T : TypeId} {ti : TypeInfo} (h : P.info? T = some ti) (w : World) : (sizeOf T).run P w = .ok ti.size w := by
  simp [sizeOf, run_typeInfo h]

variable {X : Tbl P} {T : TypeId} {i : TInfo}

theorem Tbl.size (X : Tbl P) (h : X.get T = some i) (w : World) : (sizeOf T).run P w = .ok i.t.sz w := by
  obtain ⟨ti, zv, h1, h2, _⟩ := (X.ok T i h).info
  rw [run_sizeOf h1, h2]

theorem Tbl.isAgg (X : Tbl P) (h : X.get T = some i) (w : World) : (isAgg T).run P w = .ok i.t.isAgg w := by
  have hu := (X.ok T i h).und
  simp only [Go.isAgg, Sem.run_bind]
  cases e : i.t with
  | int k => rw [e] at hu; rw [run_underlying hu]; rfl
  | bool => rw [e] at hu; rw [run_underlying hu]; rfl
  | str => rw [e] at hu; rw [run_underlying hu]; rfl
  | unit => rw [e] at hu; obtain ⟨⟨fs, hu⟩, _⟩ := hu; rw [run_underlying hu]; rfl
  | pair a b => rw [e] at hu; obtain ⟨fs, hu, _⟩ := hu; rw [run_underlying hu]; rfl
  | arr n a => rw [e] at hu; rw [run_underlying hu.1]; rfl
  | sl a => rw [e] at hu; rw [run_underlying hu.1]; rfl

/-- A variable is read. -/
theorem Tbl.loadVar (X : Tbl P) (h : X.get T = some i) {w : World} {b o : Nat} {cs : List Value} (hc : CellsAt w b o cs) (hl : cs.length = i.t.sz) (hs : i.t.isAgg = false → cs.length = 1) :
    (Go.loadVar T ⟨b, o, none⟩).run P w = .ok (mkv i.t cs) w := by
  simp only [Go.loadVar, Sem.run_bind, X.isAgg h, Result.andThen_ok, mkv]
  cases e : i.t.isAgg with
  | true => simp [X.size h, ← hl, run_loadCells hc]
  | false =>
    have := hs e
    match cs, this with
    | [c], _ => simpa using run_load1 (by simpa using hc 0 c rfl)
end

end Go.Proofs.Ytgkjgpiggjjmpaa.Ev
