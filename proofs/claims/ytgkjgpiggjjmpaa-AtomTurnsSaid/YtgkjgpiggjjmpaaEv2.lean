/- Lemmas for the claim: What is known of values and of memory that may be written. (no condition.) -/
import Derived.Test.YtgkjgpiggjjmpaaEv1
/-! What is known of values and of memory that may be written. -/
namespace Go.Proofs.Ytgkjgpiggjjmpaa.Ev
open Go
set_option linter.unusedVariables false

/-- A step from a whole to a part. -/
inductive Step where
  | fst
  | snd
  | ix (i : Nat)

/-- A value of one piece. -/
inductive SV where
  | u
  | c (t : Ty) (x : t.D)
  | nl (t : Ty)
  | ref (id ver : Nat) (t : Ty) (off len : Nat)
  | bp (id j : Nat)
  | ip (id j i : Nat)
  | rp (id ver : Nat) (t : Ty) (i : Nat) (p : List Step)
  | cp (t : Ty) (x : t.D)

inductive CV where
  | one (a : SV)
  | agg (l : List SV)
  | fn (f : Nat) (caps : List SV)

inductive AV where
  | v (a : CV)
  | tup (l : List CV)

inductive Root where
  | box (ls : List SV)
  | row (t : Ty) (xs : List t.D) (ver : Nat)

inductive HC where
  | fresh
  | dead
  | live (r : Root)

/-- Where it lies: its block, and for a row where in it, and how much room there is. -/
structure Loc where
  b : Nat
  o : Nat
  cap : Nat

structure Env where
  w : World
  F : Nat → Prop
  loc : Nat → Option Loc
  hp : List HC

def SV.size : SV → Nat
  | .c t _ => t.sz
  | _ => 1
def sumsz : List SV → Nat
  | [] => 0
  | a :: l => a.size + sumsz l

/-- Where a part lies, and its type. -/
def Ty.part : Ty → List Step → Option (Nat × Ty)
  | t, [] => some (0, t)
  | .pair a b, .fst :: p => a.part p
  | .pair a b, .snd :: p => (b.part p).map fun r => (a.sz + r.1, r.2)
  | .arr n e, .ix i :: p => if i < n then (e.part p).map fun r => (i * e.sz + r.1, r.2) else none
  | _, _ => none

def notYet : Option HC → Prop
  | none => True
  | some .fresh => True
  | _ => False

/-- What a value is. -/
def SVR (E : Env) : SV → Value → Prop
  | .u, _ => True
  | .c t x, v => ∃ cs, KC E.w E.F t x cs ∧ v = mkv t cs
  | .nl _, v => v = .slice none 0 0
  | .ref id ver t off len, v => ¬ notYet E.hp[id]? ∧ ∀ xs ver', E.hp[id]? = some (.live (.row t xs ver')) → ver ≤ ver' ∧ (ver = ver' → off + len ≤ xs.length ∧
      match E.loc id with
      | none => v = .slice none 0 0
      | some l => ∃ A, v = .slice A len (l.cap - off) ∧ (off < l.cap → A = some ⟨l.b, l.o + off * t.sz, none⟩))
  | .bp id j, v => ¬ notYet E.hp[id]? ∧ ∀ ls, E.hp[id]? = some (.live (.box ls)) → j ≤ ls.length ∧ ∃ l, E.loc id = some l ∧ v = .pointer (some ⟨l.b, sumsz (ls.take j), none⟩)
  | .ip id j i, v => ¬ notYet E.hp[id]? ∧ ∀ ls, E.hp[id]? = some (.live (.box ls)) → (∃ s, (ls.map SV.size)[j]? = some s ∧ i < s) ∧ ∃ l, E.loc id = some l ∧ v = .pointer (some ⟨l.b, sumsz (ls.take j) + i, none⟩)
  | .rp id ver t i p, v => ¬ notYet E.hp[id]? ∧ ∀ xs ver', E.hp[id]? = some (.live (.row t xs ver')) → ver ≤ ver' ∧ (ver = ver' → i < xs.length ∧ ∃ l, E.loc id = some l ∧
      ∃ d t', t.part p = some (d, t') ∧ v = .pointer (some ⟨l.b, l.o + i * t.sz + d, none⟩))
  | .cp t x, v => ∃ b o cs, v = .pointer (some ⟨b, o, none⟩) ∧ E.F b ∧ KC E.w E.F t x cs ∧ CellsAt E.w b o cs

def SVC (E : Env) : SV → List Value → Prop
  | .c t x, cs => KC E.w E.F t x cs
  | a, cs => ∃ v, cs = [v] ∧ SVR E a v

def CVR (E : Env) : CV → Value → Prop
  | .one a, v => SVR E a v
  | .agg l, v => ∃ cs, Segs (SVC E) l cs ∧ v = .agg cs.toArray
  | .fn f caps, v => ∃ vs : List Value, v = .func (.func f) #[] vs.toArray ∧ Segs (fun a cs => ∃ v, cs = [v] ∧ SVR E a v) caps vs

def AVR (E : Env) : AV → Value → Prop
  | .v a, v => CVR E a v
  | .tup l, v => ∃ vs : List Value, v = .tuple vs.toArray ∧ Segs (fun a cs => ∃ v, cs = [v] ∧ CVR E a v) l vs

/-- What a live root says of memory. -/
def RootR (E : Env) (id : Nat) : Root → Prop
  | .box ls => ∃ l ty cells, E.loc id = some l ∧ E.w.heap[l.b]? = some (.cells cells ty (0, 0)) ∧ Segs (SVC E) ls cells.toList
  | .row t xs _ => match E.loc id with
      | none => xs = []
      | some l => ∃ ty cells, E.w.heap[l.b]? = some (.cells cells ty (0, 0)) ∧ l.o + l.cap * t.sz ≤ cells.size ∧ lenOk xs.length l.cap ∧
          ∀ i x, xs[i]? = some x → ∃ ec, KC E.w E.F t x ec ∧ CellsAt E.w l.b (l.o + i * t.sz) ec

/-- Which old blocks may be written, and which may be known as never written. -/
structure Who where
  w : Nat → Prop
  g : Nat → Prop
  wg : ∀ b, w b → g b

/-- Memory, as it is known: which old blocks may be written is S. -/
structure HR (w0 : World) (S : Who) (E : Env) : Prop where
  root : ∀ (id : Nat) r, E.hp[id]? = some (.live r) → RootR E id r
  inj : ∀ (i j : Nat) ri rj li lj, E.hp[i]? = some (.live ri) → E.hp[j]? = some (.live rj) → E.loc i = some li → E.loc j = some lj → li.b = lj.b → i = j
  notF : ∀ (i : Nat) r l, E.hp[i]? = some (.live r) → E.loc i = some l → ¬ E.F l.b
  may : ∀ (i : Nat) r l, E.hp[i]? = some (.live r) → E.loc i = some l → w0.heap.size ≤ l.b ∨ S.w l.b
  inside : ∀ (i : Nat) r l, E.hp[i]? = some (.live r) → E.loc i = some l → l.b < E.w.heap.size
  Fin : ∀ b, E.F b → b < E.w.heap.size
  Fold : ∀ b, E.F b → b < w0.heap.size → S.g b
  old : ∀ b, b < w0.heap.size → ¬ S.w b → E.w.heap[b]? = w0.heap[b]?
  size : w0.heap.size ≤ E.w.heap.size
  os : E.w.os = w0.os
  tape : E.w.tape = w0.tape
  output : E.w.output = w0.output

/-- One state of knowledge behind another: what was known of values stands. -/
structure Le (E E' : Env) : Prop where
  F : ∀ b, E.F b → E'.F b
  Fw : ∀ b, E.F b → E'.w.heap[b]? = E.w.heap[b]?
  old : ∀ id : Nat, notYet E'.hp[id]? → notYet E.hp[id]?
  row : ∀ (id : Nat) t xs' ver', ¬ notYet E.hp[id]? → E'.hp[id]? = some (.live (.row t xs' ver')) → ∃ (xs : List t.D) (ver : Nat), E.hp[id]? = some (.live (.row t xs ver)) ∧ ver ≤ ver' ∧
    (ver = ver' → xs.length ≤ xs'.length ∧ E'.loc id = E.loc id)
  box : ∀ (id : Nat) ls', ¬ notYet E.hp[id]? → E'.hp[id]? = some (.live (.box ls')) → ∃ ls, E.hp[id]? = some (.live (.box ls)) ∧ ls.map SV.size = ls'.map SV.size ∧ E'.loc id = E.loc id

theorem sumsz_map {l l' : List SV} (h : l.map SV.size = l'.map SV.size) : sumsz l = sumsz l' := by
  induction l generalizing l' with
  | nil => cases l' with
    | nil => rfl
    | cons => simp at h
  | cons a l ih => cases l' with
    | nil => simp at h
    | cons b l' => simp only [List.map_cons, List.cons.injEq] at h; simp only [sumsz, h.1, ih h.2]

theorem SVR.le {E E' : Env} (h : Le E E') : ∀ {a : SV} {v : Value}, SVR E a v → SVR E' a v := by
  intro a v hv
  cases a with
  | u => trivial
  | c t x => obtain ⟨cs, hk, e⟩ := hv; exact ⟨cs, KC.move h.F h.Fw hk, e⟩
  | nl t => exact hv
  | ref id ver t off len =>
    obtain ⟨hn, hr⟩ := hv
    refine ⟨fun hn' => hn (h.old _ hn'), fun xs' ver' hx' => ?_⟩
    obtain ⟨xs, ver0, hx, hl, hs⟩ := h.row id t xs' ver' hn hx'
    obtain ⟨h0, h1⟩ := hr xs ver0 hx
    refine ⟨by omega, fun e => ?_⟩
    obtain ⟨h2, h3⟩ := h1 (by omega)
    obtain ⟨h4, h5⟩ := hs (by omega)
    exact ⟨by omega, by rw [h5]; exact h3⟩
  | bp id j =>
    obtain ⟨hn, hr⟩ := hv
    refine ⟨fun hn' => hn (h.old _ hn'), fun ls' hx' => ?_⟩
    obtain ⟨ls, hx, hl, e⟩ := h.box id ls' hn hx'
    obtain ⟨h1, l, h2, h3⟩ := hr ls hx
    have hlen : ls.length = ls'.length := by have := congrArg List.length hl; simpa using this
    refine ⟨by omega, l, by rw [e]; exact h2, ?_⟩
    rw [h3, sumsz_map (l := ls.take j) (l' := ls'.take j) (by rw [List.map_take, List.map_take, hl])]
  | ip id j i =>
    obtain ⟨hn, hr⟩ := hv
    refine ⟨fun hn' => hn (h.old _ hn'), fun ls' hx' => ?_⟩
    obtain ⟨ls, hx, hl, e⟩ := h.box id ls' hn hx'
    obtain ⟨h1, l, h2, h3⟩ := hr ls hx
    have hlen : ls.length = ls'.length := by have := congrArg List.length hl; simpa using this
    refine ⟨by rw [← hl]; exact h1, l, by rw [e]; exact h2, ?_⟩
    rw [h3, sumsz_map (l := ls.take j) (l' := ls'.take j) (by rw [List.map_take, List.map_take, hl])]
  | rp id ver t i p =>
    obtain ⟨hn, hr⟩ := hv
    refine ⟨fun hn' => hn (h.old _ hn'), fun xs' ver' hx' => ?_⟩
    obtain ⟨xs, ver0, hx, hl, hs⟩ := h.row id t xs' ver' hn hx'
    obtain ⟨h0, h1⟩ := hr xs ver0 hx
    refine ⟨by omega, fun e => ?_⟩
    obtain ⟨h2, l, h3, h4⟩ := h1 (by omega)
    obtain ⟨h5, h6⟩ := hs (by omega)
    exact ⟨by omega, l, by rw [h6]; exact h3, h4⟩
  | cp t x =>
    obtain ⟨b, o, cs, e, hF, hk, hc⟩ := hv
    exact ⟨b, o, cs, e, h.F _ hF, KC.move h.F h.Fw hk, hc.world (h.Fw _ hF)⟩

theorem SVC.le {E E' : Env} (h : Le E E') {a : SV} {cs : List Value} (hv : SVC E a cs) : SVC E' a cs := by
  cases a with
  | c t x => exact KC.move h.F h.Fw hv
  | _ => obtain ⟨v, e, hv⟩ := hv; exact ⟨v, e, hv.le h⟩
theorem CVR.le {E E' : Env} (h : Le E E') {a : CV} {v : Value} (hv : CVR E a v) : CVR E' a v := by
  cases a with
  | one a => exact SVR.le h hv
  | agg l => obtain ⟨cs, hs, e⟩ := hv; exact ⟨cs, hs.imp fun _ _ h' => h'.le h, e⟩
  | fn f caps => obtain ⟨vs, e, hs⟩ := hv; exact ⟨vs, e, hs.imp fun _ _ ⟨v, e, h'⟩ => ⟨v, e, h'.le h⟩⟩
theorem AVR.le {E E' : Env} (h : Le E E') {a : AV} {v : Value} (hv : AVR E a v) : AVR E' a v := by
  cases a with
  | v a => exact CVR.le h hv
  | tup l => obtain ⟨vs, e, hs⟩ := hv; exact ⟨vs, e, hs.imp fun _ _ ⟨v, e, h'⟩ => ⟨v, e, h'.le h⟩⟩
theorem Le.refl (E : Env) : Le E E := ⟨fun _ h => h, fun _ _ => rfl, fun _ h => h, fun _ _ xs ver _ h => ⟨xs, ver, h, Nat.le_refl _, fun _ => ⟨Nat.le_refl _, rfl⟩⟩, fun _ ls _ h => ⟨ls, h, rfl, rfl⟩⟩
theorem Le.trans {E E' E'' : Env} (h : Le E E') (k : Le E' E'') : Le E E'' := by
  refine ⟨fun b hb => k.F b (h.F b hb), fun b hb => (k.Fw b (h.F b hb)).trans (h.Fw b hb), fun id hn => h.old id (k.old id hn), fun id t xs'' ver'' hn hx => ?_, fun id ls'' hn hx => ?_⟩
  · have hn' : ¬ notYet E'.hp[id]? := fun h' => hn (h.old id h')
    obtain ⟨xs', ver', h1, h2, h3⟩ := k.row id t xs'' ver'' hn' hx
    obtain ⟨xs, ver, h4, h5, h6⟩ := h.row id t xs' ver' hn h1
    refine ⟨xs, ver, h4, by omega, fun e => ?_⟩
    obtain ⟨h7, h8⟩ := h3 (by omega)
    obtain ⟨h9, h10⟩ := h6 (by omega)
    exact ⟨by omega, h8.trans h10⟩
  · have hn' : ¬ notYet E'.hp[id]? := fun h' => hn (h.old id h')
    obtain ⟨ls', h1, h2, h3⟩ := k.box id ls'' hn' hx
    obtain ⟨ls, h4, h5, h6⟩ := h.box id ls' hn h1
    exact ⟨ls, h4, h5.trans h2, h3.trans h6⟩

end Go.Proofs.Ytgkjgpiggjjmpaa.Ev
