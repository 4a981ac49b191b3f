/- Lemmas for the claim: Types of plain data, and how cells hold them. (no condition.) -/
import Derived.Calls
/-! Types of plain data, and how cells hold them. -/
namespace Go.Proofs.Ytgkjgpiggjjmpaa.Ev
open Go
set_option linter.unusedVariables false

inductive Ty where
  | int (k : IntKind)
  | bool
  | str
  | unit
  | pair (a b : Ty)
  | arr (n : Nat) (e : Ty)
  | sl (e : Ty)
  deriving DecidableEq, Inhabited

@[reducible] def Ty.D : Ty → Type
  | .int _ => Int
  | .bool => Bool
  | .str => ByteArray
  | .unit => Unit
  | .pair a b => a.D × b.D
  | .arr _ e => List e.D
  | .sl e => List e.D

def Ty.sz : Ty → Nat
  | .unit => 0
  | .pair a b => a.sz + b.sz
  | .arr n e => n * e.sz
  | _ => 1

/-- Is a value of it a row of cells? -/
def Ty.isAgg : Ty → Bool
  | .unit | .pair _ _ | .arr _ _ => true
  | _ => false

def Ty.z : (t : Ty) → t.D
  | .int _ => (0 : Int)
  | .bool => false
  | .str => ByteArray.empty
  | .unit => ()
  | .pair a b => (a.z, b.z)
  | .arr n e => List.replicate n e.z
  | .sl _ => []

/-- Equal as Go asks it (types without slices). -/
def Ty.eqb : (t : Ty) → t.D → t.D → Bool
  | .int _, x, y => (x : Int) == y
  | .bool, x, y => (x : Bool) == y
  | .str, x, y => (x : ByteArray) == y
  | .unit, _, _ => true
  | .pair a b, x, y => a.eqb x.1 y.1 && b.eqb x.2 y.2
  | .arr _ e, x, y => (x.zip y).all fun p => e.eqb p.1 p.2
  | .sl _, _, _ => false

/-- So long is what has room c, and no longer than memory can be. -/
abbrev lenOk (n c : Nat) : Prop := n ≤ c ∧ n ≤ 140737488355328

def CellsAt (w : World) (b o : Nat) (cs : List Value) : Prop := ∀ j v, cs[j]? = some v → w.cell? ⟨b, o + j, none⟩ = some v

/-- cs is a row of segments of size s, one for each of xs. -/
def Segs {α : Type} (R : α → List Value → Prop) : List α → List Value → Prop
  | [], cs => cs = []
  | x :: xs, cs => ∃ c1 c2, cs = c1 ++ c2 ∧ R x c1 ∧ Segs R xs c2

/-- cs holds x; whatever it leads to lies in blocks of F. -/
def KC (w : World) (F : Nat → Prop) : (t : Ty) → t.D → List Value → Prop
  | .int k, x, cs => cs = [.int k x]
  | .bool, x, cs => cs = [.bool x]
  | .str, x, cs => cs = [.string x]
  | .unit, _, cs => cs = []
  | .pair a b, x, cs => ∃ c1 c2, cs = c1 ++ c2 ∧ KC w F a x.1 c1 ∧ KC w F b x.2 c2
  | .arr n e, xs, cs => xs.length = n ∧ Segs (KC w F e) xs cs
  | .sl e, xs, cs => ∃ A c, cs = [.slice A xs.length c] ∧ lenOk xs.length c ∧ (xs ≠ [] → ∃ b o, A = some ⟨b, o, none⟩ ∧ F b ∧
      ∀ i x, xs[i]? = some x → ∃ ec, KC w F e x ec ∧ CellsAt w b (o + i * e.sz) ec)

theorem Segs.imp {α : Type} {R R' : α → List Value → Prop} (h : ∀ x c, R x c → R' x c) : ∀ {xs : List α} {cs : List Value}, Segs R xs cs → Segs R' xs cs
  | [], _, hs => hs
  | _ :: _, _, ⟨c1, c2, e, h1, h2⟩ => ⟨c1, c2, e, h _ _ h1, h2.imp h⟩

theorem Segs.length {α : Type} {R : α → List Value → Prop} {s : Nat} (h : ∀ x c, R x c → c.length = s) : ∀ {xs : List α} {cs : List Value}, Segs R xs cs → cs.length = xs.length * s
  | [], _, hs => by cases hs; simp
  | x :: xs, _, ⟨c1, c2, e, h1, h2⟩ => by
    subst e
    have := h2.length h
    rw [List.length_append, h _ _ h1, this, List.length_cons, Nat.succ_mul]; omega

theorem KC.len {w : World} {F : Nat → Prop} : ∀ {t : Ty} {x : t.D} {cs : List Value}, KC w F t x cs → cs.length = t.sz
  | .int _, _, _, h => by cases h; rfl
  | .bool, _, _, h => by cases h; rfl
  | .str, _, _, h => by cases h; rfl
  | .unit, _, _, h => by cases h; rfl
  | .pair a b, _, _, ⟨c1, c2, e, h1, h2⟩ => by rw [e, List.length_append, h1.len, h2.len]; rfl
  | .arr n e, _, _, ⟨hn, hs⟩ => by rw [hs.length (fun _ _ h => KC.len h), hn]; rfl
  | .sl e, _, _, ⟨A, c, e1, _⟩ => by subst e1; rfl

theorem CellsAt.world {w w' : World} {b o : Nat} {cs : List Value} (h : CellsAt w b o cs) (hb : w'.heap[b]? = w.heap[b]?) : CellsAt w' b o cs := by
  intro j v hj
  have := h j v hj
  simp only [World.cell?] at this ⊢
  rw [hb]; exact this

theorem KC.move {w w' : World} {F F' : Nat → Prop} (hF : ∀ b, F b → F' b) (hw : ∀ b, F b → w'.heap[b]? = w.heap[b]?) :
    ∀ {t : Ty} {x : t.D} {cs : List Value}, KC w F t x cs → KC w' F' t x cs
  | .int _, _, _, h => h
  | .bool, _, _, h => h
  | .str, _, _, h => h
  | .unit, _, _, h => h
  | .pair a b, _, _, ⟨c1, c2, e, h1, h2⟩ => ⟨c1, c2, e, KC.move hF hw h1, KC.move hF hw h2⟩
  | .arr n e, _, _, ⟨hn, hs⟩ => ⟨hn, hs.imp fun _ _ h => KC.move hF hw h⟩
  | .sl e, _, _, ⟨A, c, e1, hc, h⟩ => ⟨A, c, e1, hc, fun hne => by
      obtain ⟨b, o, ea, hb, h⟩ := h hne
      refine ⟨b, o, ea, hF _ hb, fun i x hx => ?_⟩
      obtain ⟨ec, h1, h2⟩ := h i x hx
      exact ⟨ec, KC.move hF hw h1, h2.world (hw _ hb)⟩⟩

theorem CellsAt.left {w : World} {b o : Nat} {c1 c2 : List Value} (h : CellsAt w b o (c1 ++ c2)) : CellsAt w b o c1 := fun j v hj =>
  h j v (by rw [List.getElem?_append_left]; exact hj; exact (List.getElem?_eq_some_iff.1 hj).1)
theorem CellsAt.right {w : World} {b o : Nat} {c1 c2 : List Value} (h : CellsAt w b o (c1 ++ c2)) : CellsAt w b (o + c1.length) c2 := fun j v hj => by
  have := h (c1.length + j) v (by rw [List.getElem?_append_right (by omega)]; simpa using hj)
  rwa [Nat.add_assoc]
theorem CellsAt.append {w : World} {b o : Nat} {c1 c2 : List Value} (h1 : CellsAt w b o c1) (h2 : CellsAt w b (o + c1.length) c2) : CellsAt w b o (c1 ++ c2) := fun j v hj => by
  by_cases hl : j < c1.length
  · rw [List.getElem?_append_left hl] at hj; exact h1 j v hj
  · rw [List.getElem?_append_right (by omega)] at hj
    have := h2 (j - c1.length) v hj
    rwa [Nat.add_assoc, Nat.add_sub_cancel' (by omega)] at this

/-- Cells of a struct's value, one behind the other; a value out of cells. -/
def mkv (t : Ty) (cs : List Value) : Value := if t.isAgg then .agg cs.toArray else cs.headD (.tuple #[])

end Go.Proofs.Ytgkjgpiggjjmpaa.Ev
