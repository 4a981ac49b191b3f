/- Lemmas for the claim: New things: boxes, rows, append. (no condition.) -/
import Derived.Test.YtgkjgpiggjjmpaaEv8
/-! New things: boxes, rows, append. -/
namespace Go.Proofs.Ytgkjgpiggjjmpaa.Ev
open Go
set_option linter.unusedVariables false

section
variable {w : World} {F : Nat → Prop}

theorem row_segs {t : Ty} {b : Nat} : ∀ {xs : List t.D} {o : Nat}, (∀ i x, xs[i]? = some x → ∃ ec, KC w F t x ec ∧ CellsAt w b (o + i * t.sz) ec) → ∃ cs, Segs (KC w F t) xs cs ∧ CellsAt w b o cs
  | [], o, _ => ⟨[], rfl, fun j v hj => by simp at hj⟩
  | x :: xs, o, h => by
    obtain ⟨ec, h1, h2⟩ := h 0 x rfl
    obtain ⟨cs, h3, h4⟩ := row_segs (xs := xs) (o := o + t.sz) (fun i y hy => by
      obtain ⟨ec, h5, h6⟩ := h (i + 1) y (by simpa using hy)
      exact ⟨ec, h5, by rw [show o + t.sz + i * t.sz = o + (i + 1) * t.sz by rw [Nat.succ_mul]; omega]; exact h6⟩)
    refine ⟨ec ++ cs, ⟨ec, cs, rfl, h1, h3⟩, CellsAt.append (by simpa using h2) (by rw [h1.len]; exact h4)⟩

theorem segs_row {t : Ty} {b : Nat} : ∀ {xs : List t.D} {cs : List Value} {o : Nat}, Segs (KC w F t) xs cs → CellsAt w b o cs → ∀ i x, xs[i]? = some x → ∃ ec, KC w F t x ec ∧ CellsAt w b (o + i * t.sz) ec
  | x :: xs, _, o, ⟨c1, c2, e, h1, h2⟩, hc, 0, y, hy => by
    subst e
    simp only [List.getElem?_cons_zero, Option.some.injEq] at hy
    subst hy
    exact ⟨c1, h1, by simpa using hc.left⟩
  | x :: xs, _, o, ⟨c1, c2, e, h1, h2⟩, hc, i + 1, y, hy => by
    subst e
    obtain ⟨ec, h3, h4⟩ := segs_row h2 hc.right i y (by simpa using hy)
    exact ⟨ec, h3, by rw [show o + (i + 1) * t.sz = o + c1.length + i * t.sz by rw [h1.len, Nat.succ_mul]; omega]; exact h4⟩
  | [], _, _, _, _, i, y, hy => by simp at hy

theorem KC.zero : ∀ {t : Ty}, KC w F t t.z (zc t)
  | .int _ => rfl
  | .bool => rfl
  | .str => rfl
  | .unit => rfl
  | .pair a b => ⟨zc a, zc b, rfl, KC.zero, KC.zero⟩
  | .arr n e => ⟨by simp [Ty.z], by
      have : ∀ n, Segs (KC w F e) (List.replicate n e.z) (List.replicate n (zc e)).flatten := fun n => by
        induction n with
        | zero => exact rfl
        | succ n ih => exact ⟨zc e, _, by simp [List.replicate_succ], KC.zero, ih⟩
      exact this n⟩
  | .sl e => ⟨none, 0, rfl, ⟨Nat.le_refl 0, Nat.zero_le _⟩, fun h => absurd rfl h⟩

theorem segs_zero {t : Ty} : ∀ n, Segs (KC w F t) (List.replicate n t.z) (List.replicate n (zc t)).flatten
  | 0 => rfl
  | n + 1 => ⟨zc t, _, by simp [List.replicate_succ], KC.zero, segs_zero n⟩
end

def zl : Ty → List SV
  | .pair a b => zl a ++ zl b
  | .unit => []
  | .sl e => [.nl e]
  | .int k => [.c (.int k) (0 : Int)]
  | .bool => [.c .bool false]
  | .str => [.c .str ByteArray.empty]
  | .arr n e => [.c (.arr n e) (List.replicate n e.z)]

section
variable {P : Program} {X : Tbl P} {w0 : World} {S : Who} {E : Env} {T : TypeId}

theorem segs_zl : ∀ {t : Ty}, Segs (SVC E) (zl t) (zc t)
  | .pair a b => (segs_zl (t := a)).append (segs_zl (t := b))
  | .unit => rfl
  | .sl e => ⟨_, [], rfl, ⟨_, rfl, rfl⟩, rfl⟩
  | .int k => ⟨_, [], rfl, rfl, rfl⟩
  | .bool => ⟨_, [], rfl, rfl, rfl⟩
  | .str => ⟨_, [], rfl, rfl, rfl⟩
  | .arr n e => ⟨_, [], by simp, KC.zero (t := .arr n e), rfl⟩

/-- A new block. -/
theorem HR.new (h : HR w0 S E) {id : Nat} (hi : E.hp[id]? = some .fresh) (r : Root) (cells : Array Value) (ty : TypeId) (cap : Nat) (w1 : World) (hw1 : w1.heap = E.w.heap) (h1 : w1.os = E.w.os) (h2 : w1.tape = E.w.tape) (h3 : w1.output = E.w.output) :
    Le E (E.put id r (some ⟨E.w.heap.size, 0, cap⟩) { w1 with heap := w1.heap.push (.cells cells ty) }) ∧
    (RootR (E.put id r (some ⟨E.w.heap.size, 0, cap⟩) { w1 with heap := w1.heap.push (.cells cells ty) }) id r → HR w0 S (E.put id r (some ⟨E.w.heap.size, 0, cap⟩) { w1 with heap := w1.heap.push (.cells cells ty) })) := by
  refine h.put id r _ _ ⟨_, hi, trivial⟩ (fun b hb hlt => ?_) (by simp [hw1]) h1 h2 h3 (fun l e => ?_)
  · simp only [hw1, Array.getElem?_push]
    rw [if_neg (by omega)]
  · simp only [Option.some.injEq] at e
    subst e
    exact ⟨by simp [hw1], .inl (Nat.le_refl _)⟩

theorem push_heap (w : World) (o : Obj) : ({ w with heap := w.heap.push o } : World).heap[w.heap.size]? = some o := by simp

theorem fresh_live {id : Nat} {r : Root} {l : Option Loc} {w' : World} (hi : E.hp[id]? = some .fresh) : (E.put id r l w').hp[id]? = some (.live r) ∧ ¬ notYet (E.put id r l w').hp[id]? := by
  have hlen : id < E.hp.length := (List.getElem?_eq_some_iff.1 hi).1
  have : (E.put id r l w').hp[id]? = some (.live r) := by simp [Env.put, hlen]
  exact ⟨this, by rw [this]; exact fun h => h⟩

/-- What an operation that yields a value comes to. -/
def Comes1 (P : Program) (w0 : World) (S : Who) (E : Env) (s : Sem Value) (r : CV) (hp' : List HC) : Prop :=
  ∃ v E', s.run P E.w = .ok v E'.w ∧ E'.hp = hp' ∧ Le E E' ∧ HR w0 S E' ∧ CVR E' r v

theorem box_ok (h : HR w0 S E) {i : TInfo} (hX : X.get T = some i) {id : Nat} (hi : E.hp[id]? = some .fresh) {val : CV} {v : Value} (hv : CVR E val v) {l : List SV} (hl : leavesOf i.t val = some l) (hlive : l.all (isLive E.hp) = true) :
    Comes1 P w0 S E (Instr.box T v) (.one (.bp id 0)) (E.hp.set id (.live (.box l))) := by
  have hs := leavesOf_ok h hl hlive hv
  obtain ⟨le, hr⟩ := h.new hi (.box l) v.cells T 0 E.w rfl rfl rfl rfl
  obtain ⟨h1, h2⟩ := fresh_live (r := .box l) (l := some ⟨E.w.heap.size, 0, 0⟩) (w' := { E.w with heap := E.w.heap.push (.cells v.cells T) }) hi
  refine ⟨.pointer (some ⟨E.w.heap.size, 0, none⟩), _, ?_, rfl, le, hr ?_, h2, fun ls' hb => ?_⟩
  · simp [Instr.box, newVar, newRow, Env.put]
  · exact ⟨⟨E.w.heap.size, 0, 0⟩, T, v.cells, by simp [Env.put], push_heap _ _, hs.imp fun _ _ h' => h'.le le⟩
  · rw [h1] at hb
    simp only [Option.some.injEq, HC.live.injEq, Root.box.injEq] at hb
    subst hb
    exact ⟨Nat.zero_le _, _, by simp [Env.put]; rfl, rfl⟩

theorem Tbl.zero (X : Tbl P) {i : TInfo} (hX : X.get T = some i) (w : World) : ∃ zv, (zeroValue T).run P w = .ok zv w ∧ zv.cells.toList = zc i.t := by
  obtain ⟨ti, zv, h1, h2, h3, h4, h5, h6⟩ := (X.ok T i hX).info
  exact ⟨zv, by simp [zeroValue, run_typeInfo h1, h4], h5⟩

theorem alloc_ok (h : HR w0 S E) {i : TInfo} (hX : X.get T = some i) {id : Nat} (hi : E.hp[id]? = some .fresh) (old : Value) :
    Comes1 P w0 S E (Instr.alloc T true old) (.one (.bp id 0)) (E.hp.set id (.live (.box (zl i.t)))) := by
  obtain ⟨zv, hz, hzc⟩ := X.zero hX E.w
  obtain ⟨le, hr⟩ := h.new hi (.box (zl i.t)) zv.cells T 0 E.w rfl rfl rfl rfl
  obtain ⟨h1, h2⟩ := fresh_live (r := .box (zl i.t)) (l := some ⟨E.w.heap.size, 0, 0⟩) (w' := { E.w with heap := E.w.heap.push (.cells zv.cells T) }) hi
  refine ⟨.pointer (some ⟨E.w.heap.size, 0, none⟩), _, ?_, rfl, le, hr ?_, h2, fun ls' hb => ?_⟩
  · cases old <;> simp [Instr.alloc, newVar, newRow, Env.put, hz]
  · exact ⟨⟨E.w.heap.size, 0, 0⟩, T, zv.cells, by simp [Env.put], push_heap _ _, by rw [hzc]; exact segs_zl⟩
  · rw [h1] at hb
    simp only [Option.some.injEq, HC.live.injEq, Root.box.injEq] at hb
    subst hb
    exact ⟨Nat.zero_le _, _, by simp [Env.put]; rfl, rfl⟩

/-- A new row out of cells. -/
theorem newRow_ok (h : HR w0 S E) {id : Nat} (hi : E.hp[id]? = some .fresh) {t : Ty} (xs : List t.D) (cells : Array Value) (ty : TypeId) (cap : Nat) (cs rest : List Value) (hc : cells.toList = cs ++ rest)
    (hs : Segs (KC E.w E.F t) xs cs) (hcap : cap * t.sz ≤ cells.size) (hlen : lenOk xs.length cap) (w1 : World) (hw1 : w1.heap = E.w.heap) (h1 : w1.os = E.w.os) (h2 : w1.tape = E.w.tape) (h3 : w1.output = E.w.output) :
    ∃ E', E'.w = { w1 with heap := w1.heap.push (.cells cells ty) } ∧ E'.hp = E.hp.set id (.live (.row t xs 0)) ∧ Le E E' ∧ HR w0 S E' ∧ CVR E' (.one (.ref id 0 t 0 xs.length)) (.slice (some ⟨w1.heap.size, 0, none⟩) xs.length cap) := by
  obtain ⟨le, hr⟩ := h.new hi (.row t xs 0) cells ty cap w1 hw1 h1 h2 h3
  obtain ⟨g1, g2⟩ := fresh_live (r := .row t xs 0) (l := some ⟨E.w.heap.size, 0, cap⟩) (w' := { w1 with heap := w1.heap.push (.cells cells ty) }) hi
  refine ⟨_, rfl, rfl, le, hr ?_, g2, fun xs' ver' hb => ?_⟩
  · simp only [RootR, Env.put, if_true]
    have hb : ({ w1 with heap := w1.heap.push (.cells cells ty) } : World).heap[E.w.heap.size]? = some (.cells cells ty (0, 0)) := by rw [← hw1]; exact push_heap _ _
    refine ⟨ty, cells, hb, by simpa using hcap, hlen, ?_⟩
    have hca := cellsAt_heap hb
    rw [hc] at hca
    exact segs_row (hs.imp fun _ _ hk => KC.move le.F le.Fw hk) hca.left
  · rw [g1] at hb
    simp only [Option.some.injEq, HC.live.injEq, Root.row.injEq, heq_eq_eq, true_and] at hb
    obtain ⟨rfl, rfl⟩ := hb
    refine ⟨Nat.le_refl _, fun _ => ⟨by omega, ?_⟩⟩
    simp only [Env.put, if_true]
    exact ⟨_, by simp; rfl, fun _ => by simp [hw1]⟩

/-- What a slice holds. -/
def rowVal (hp : List HC) (t : Ty) : SV → Option (List t.D)
  | .c (.sl e) xs => if h : e = t then some (cast (congrArg (fun t => List (Ty.D t)) h) xs) else none
  | .nl _ => some []
  | .ref id ver t' off len => if t' = t then (rowOf hp id ver t).map fun xs => (xs.drop off).take len else none
  | _ => none

theorem rowVal_ok (h : HR w0 S E) {t : Ty} {a : SV} {xs : List t.D} {v : Value} (hv : SVR E a v) (hr : rowVal E.hp t a = some xs) :
    ∃ A c cs, v = .slice A xs.length c ∧ Segs (KC E.w E.F t) xs cs ∧ (xs ≠ [] → ∃ b o, A = some ⟨b, o, none⟩ ∧ CellsAt E.w b o cs ∧ b < E.w.heap.size) := by
  cases a with
  | c t' x =>
    cases t' with
    | sl e =>
      simp only [rowVal] at hr
      split at hr
      · rename_i he
        subst he
        simp only [cast_eq, Option.some.injEq] at hr
        subst hr
        obtain ⟨cs0, hk, rfl⟩ := hv
        obtain ⟨A, c, rfl, hc, hk⟩ := hk
        by_cases hne : (x : List e.D) = []
        · exact ⟨A, c, [], rfl, by rw [hne]; rfl, fun h => absurd hne h⟩
        · obtain ⟨b, o, rfl, hF, hk⟩ := hk hne
          obtain ⟨cs, h1, h2⟩ := row_segs hk
          exact ⟨_, c, cs, rfl, h1, fun _ => ⟨b, o, rfl, h2, h.Fin b hF⟩⟩
      · cases hr
    | _ => simp [rowVal] at hr
  | nl t' =>
    simp only [rowVal, Option.some.injEq] at hr
    subst hr
    rw [show v = _ from hv]
    exact ⟨none, 0, [], rfl, rfl, fun h => absurd rfl h⟩
  | ref id ver t' off len =>
    simp only [rowVal] at hr
    split at hr
    · rename_i he
      subst he
      simp only [Option.map_eq_some_iff] at hr
      obtain ⟨ys, hy, rfl⟩ := hr
      have hb := rowOf_some hy
      obtain ⟨hn, hv1⟩ := hv
      obtain ⟨_, hv2⟩ := hv1 ys ver hb
      clear hv1
      have hv3 := hv2 rfl
      clear hv2
      obtain ⟨hlen, hv⟩ := hv3
      have hroot := h.root id _ hb
      simp only [RootR] at hroot
      have hl : ((ys.drop off).take len).length = len := by rw [List.length_take, List.length_drop]; omega
      cases hloc : E.loc id with
      | none =>
        rw [hloc] at hroot hv
        subst hroot
        simp at hlen
        obtain ⟨rfl, rfl⟩ := hlen
        exact ⟨none, 0, [], by rw [hv]; rfl, rfl, fun h => absurd rfl h⟩
      | some l =>
        rw [hloc] at hroot hv
        obtain ⟨ty, cells, hc, hcap, hlen2, hrow⟩ := hroot
        obtain ⟨A, rfl, hA⟩ := hv
        obtain ⟨cs, h1, h2⟩ := row_segs (w := E.w) (F := E.F) (t := t') (b := l.b) (xs := (ys.drop off).take len) (o := l.o + off * t'.sz) (fun i x hx => by
          rw [List.getElem?_take, List.getElem?_drop] at hx
          split at hx
          · obtain ⟨ec, h3, h4⟩ := hrow (off + i) x hx
            exact ⟨ec, h3, by rw [Nat.add_mul, ← Nat.add_assoc] at h4; exact h4⟩
          · cases hx)
        refine ⟨A, l.cap - off, cs, by rw [hl], h1, fun hne => ⟨l.b, _, hA ?_, h2, h.inside id _ l hb hloc⟩⟩
        have : 0 < len := by
          rcases Nat.eq_zero_or_pos len with e | e
          · subst e; simp at hne
          · exact e
        omega
    · cases hr
  | _ => simp [rowVal] at hr

theorem firstCells_ok {t : Ty} {xs : List t.D} {A : Option Addr} {c : Nat} {cs : List Value} {w : World} {F : Nat → Prop} (hs : Segs (KC w F t) xs cs) (hA : xs ≠ [] → ∃ b o, A = some ⟨b, o, none⟩ ∧ CellsAt w b o cs) :
    ∀ n, n = xs.length → ∃ r : Array Value, (Builtin.firstCells t.sz n (.slice A n c)).run P w = .ok r w ∧ r.toList = cs := by
  intro n e
  subst e
  have hl : cs.length = xs.length * t.sz := hs.length fun _ _ hk => hk.len
  by_cases hne : xs = []
  · subst hne
    cases hs
    cases A with
    | none => exact ⟨#[], by simp [Builtin.firstCells], rfl⟩
    | some a => exact ⟨#[], by simp [Builtin.firstCells, loadCells, loadCellsFrom], rfl⟩
  · obtain ⟨b, o, rfl, hc⟩ := hA hne
    refine ⟨cs.toArray, ?_, rfl⟩
    simp only [Builtin.firstCells]
    rw [← hl]
    exact run_loadCells hc
end
end Go.Proofs.Ytgkjgpiggjjmpaa.Ev
