/- Lemmas for the claim: Operations one behind the other; calls. (no condition.) -/
import Derived.Test.YtgkjgpiggjjmpaaEv14b
/-! Operations one behind the other; calls. -/
namespace Go.Proofs.Ytgkjgpiggjjmpaa.Ev
open Go
set_option linter.unusedVariables false

structure St where
  tm : List AV
  hp : List HC

/-- One state of knowledge behind another, for what lies below n. -/
structure LeN (n : Nat) (E E' : Env) : Prop where
  F : ∀ b, E.F b → E'.F b
  Fw : ∀ b, E.F b → E'.w.heap[b]? = E.w.heap[b]?
  old : ∀ id : Nat, id < n → notYet E'.hp[id]? → notYet E.hp[id]?
  row : ∀ (id : Nat) t xs' ver', id < n → ¬ notYet E.hp[id]? → E'.hp[id]? = some (.live (.row t xs' ver')) → ∃ (xs : List t.D) (ver : Nat), E.hp[id]? = some (.live (.row t xs ver)) ∧ ver ≤ ver' ∧
    (ver = ver' → xs.length ≤ xs'.length ∧ E'.loc id = E.loc id)
  box : ∀ (id : Nat) ls', id < n → ¬ notYet E.hp[id]? → E'.hp[id]? = some (.live (.box ls')) → ∃ ls, E.hp[id]? = some (.live (.box ls)) ∧ ls.map SV.size = ls'.map SV.size ∧ E'.loc id = E.loc id

theorem LeN.refl (n : Nat) (E : Env) : LeN n E E := ⟨fun _ h => h, fun _ _ => rfl, fun _ _ h => h, fun _ _ xs ver _ _ h => ⟨xs, ver, h, Nat.le_refl _, fun _ => ⟨Nat.le_refl _, rfl⟩⟩, fun _ ls _ _ h => ⟨ls, h, rfl, rfl⟩⟩
theorem Le.n {E E' : Env} (h : Le E E') (n : Nat) : LeN n E E' := ⟨h.F, h.Fw, fun id _ => h.old id, fun id t xs ver _ => h.row id t xs ver, fun id ls _ => h.box id ls⟩
theorem LeN.le {n : Nat} {E E' : Env} (h : LeN n E E') (hn : ∀ id, n ≤ id → notYet E.hp[id]?) : (∀ id : Nat, notYet E'.hp[id]? → notYet E.hp[id]?) → Le E E' := by
  intro ho
  have lt : ∀ id, ¬ notYet E.hp[id]? → id < n := fun id hd => by
    rcases Nat.lt_or_ge id n with h1 | h1
    · exact h1
    · exact absurd (hn id h1) hd
  exact ⟨h.F, h.Fw, ho, fun id t xs ver hd => h.row id t xs ver (lt id hd) hd, fun id ls hd => h.box id ls (lt id hd) hd⟩
theorem LeN.trans {n : Nat} {E E' E'' : Env} (h : LeN n E E') (k : LeN n E' E'') : LeN n E E'' := by
  refine ⟨fun b hb => k.F b (h.F b hb), fun b hb => (k.Fw b (h.F b hb)).trans (h.Fw b hb), fun id hi hn => h.old id hi (k.old id hi hn), fun id t xs'' ver'' hi hn hx => ?_, fun id ls'' hi hn hx => ?_⟩
  · have hn' : ¬ notYet E'.hp[id]? := fun h' => hn (h.old id hi h')
    obtain ⟨xs', ver', h1, h2, h3⟩ := k.row id t xs'' ver'' hi hn' hx
    obtain ⟨xs, ver, h4, h5, h6⟩ := h.row id t xs' ver' hi hn h1
    refine ⟨xs, ver, h4, by omega, fun e => ?_⟩
    obtain ⟨h7, h8⟩ := h3 (by omega)
    obtain ⟨h9, h10⟩ := h6 (by omega)
    exact ⟨by omega, h8.trans h10⟩
  · have hn' : ¬ notYet E'.hp[id]? := fun h' => hn (h.old id hi h')
    obtain ⟨ls', h1, h2, h3⟩ := k.box id ls'' hi hn' hx
    obtain ⟨ls, h4, h5, h6⟩ := h.box id ls' hi hn h1
    exact ⟨ls, h4, h5.trans h2, h3.trans h6⟩

/-- A function that has a text. -/
def HasBody (P : Program) (k : Nat) : Prop := ∃ fn, P.funcs[k]? = some fn ∧ fn.body.isSome = true ∧ fn.name ≠ "runtime.NumGoroutine"

/-- A call, as the evaluator sees it: it goes on with what is handed back. -/
def ACall (P : Program) (k : Nat) (args : List CV) (hp : List HC) (K : AV → List HC → Prop) : Prop :=
  HasBody P k ∧ ∀ (w0 : World) (S : Who) (E : Env) (vs : List Value), HR w0 S E → E.hp = hp → Segs (fun a cs => ∃ v, cs = [v] ∧ CVR E a v) args vs →
    Calls P k vs.toArray E.w fun e w' => ∃ av E' v, e = .returned v ∧ K av E'.hp ∧ E'.w = w' ∧ Le E E' ∧ HR w0 S E' ∧ AVR E' av v

theorem ACall.mono {P : Program} {k : Nat} {args : List CV} {hp : List HC} {K K' : AV → List HC → Prop} (h : ACall P k args hp K) (hk : ∀ a h, K a h → K' a h) : ACall P k args hp K' :=
  ⟨h.1, fun w0 S E vs a b c => (h.2 w0 S E vs a b c).mono fun _ _ ⟨av, E', v, h1, h2, h3⟩ => ⟨av, E', v, h1, hk _ _ h2, h3⟩⟩

def putA (tm : List AV) : Option Tmp → AV → List AV
  | some d, r => tm.set d r
  | none, _ => tm

/-- Which slots a region makes things in. -/
def countAl : List Oper → Nat
  | [] => 0
  | o :: l => (if isAl o.op then 1 else 0) + countAl l

/-- How a call is made: how calls of this function are seen. -/
abbrev Mode (P : Program) := Nat → List CV → List HC → (AV → List HC → Prop) → Prop

def lenKnow : SV → AV → Prop
  | .c .str _, _ => True
  | _, .v (.one (.c (.int .i64) n)) => 0 ≤ n ∧ n ≤ 140737488355328
  | _, _ => True

/-- What is known of a result besides. -/
def know {P : Program} (X : Tbl P) (o : Oper) (tm : List AV) (r : AV) : Prop :=
  match o.op with
  | .call c => match c.callee, c.args.toList, c.argTypes.toList with
    | .builtin .len, [x], [T] => lenKnow (opd X T tm x).cv.sv r
    | _, _, _ => True
  | _ => True

/-- Rows that fall still. -/
def fz : List Nat → St → St
  | [], st => st
  | id :: l, st => match isRow st.hp id with
    | true => fz l ⟨frzT id st.tm st.hp, frzH id st.hp⟩
    | false => fz l st

/-- What must be still ahead of an operation. -/
def prep {P : Program} (X : Tbl P) (o : Oper) (st : St) : St :=
  match o.op with
  | .buildSlice _ _ ps => fz (cvIds (ps.toList.map fun p => (opd X 0 st.tm p.2).cv)) st
  | .store _ a v => match (opd X 0 st.tm a).cv.sv with
    | .rp _ _ _ _ _ => fz (opd X 0 st.tm v).cv.ids st
    | _ => st
  | .call c => match c.callee with
    | .value f => match opd X 0 st.tm f with
      | .v (.fn k _) => match cvIds (c.args.toList.map fun x => (opd X 0 st.tm x).cv) with
        | [] => st
        | id :: l => match X.frz k with
          | true => fz (id :: l) st
          | false => st
      | _ => st
    | _ => st
  | _ => st

def evOp1 {P : Program} (X : Tbl P) (M : Mode P) (slot : Nat) (o : Oper) (st : St) (K : St → Prop) : Prop :=
  match fOp X slot o st.tm st.hp with
  | some (p, r, hp') => p ∧ (isAl o.op = true → st.hp[slot]? = some .fresh) ∧ (know X o st.tm r → K ⟨putA st.tm o.dst r, hp'⟩)
  | none => match o.op with
    | .call c => match c.callee with
      | .value f => match opd X 0 st.tm f with
        | .v (.fn k caps) => c.args.size = c.argTypes.size ∧ M k (((c.args.toList.zip c.argTypes.toList).map fun x => (opd X x.2 st.tm x.1).cv) ++ caps.map CV.one) st.hp fun r hp' => K ⟨putA st.tm o.dst r, hp'⟩
        | _ => False
      | _ => False
    | .binOp .eql T x (.const (.slice none 0 0)) _ => match X.get T, rowLen st.hp (opd X T st.tm x).cv.sv with
      | some i, some n => if isSl i.t then ∀ b : Bool, (b = true → n = 0) → K ⟨putA st.tm o.dst (.v (.one (.c .bool b))), st.hp⟩ else False
      | _, _ => False
    | _ => False
where
  rowLen (hp : List HC) : SV → Option Nat
  | .c (.sl e) xs => some (List.length (α := e.D) xs)
  | .ref id ver t off len => (rowOf hp id ver t).map fun _ => len
  | .nl _ => some 0
  | _ => none

def evOp {P : Program} (X : Tbl P) (M : Mode P) (slot : Nat) (o : Oper) (st : St) (K : St → Prop) : Prop := evOp1 X M slot o (prep X o st) K

/-- A slot's value, of which a test is asked. -/
def evOps {P : Program} (X : Tbl P) (M : Mode P) (ops : List Oper) : List Oper → Nat → St → (St → Prop) → Prop
  | [], _, st, K => K st
  | o :: rest, slot, st, K =>
    match o.guard with
    | none => evOp X M slot o st fun st' => evOps X M ops rest (slot + if isAl o.op then 1 else 0) st' K
    | some (j, want) => match (ops[j]?).bind (·.dst) with
      | none => False
      | some d => match st.tm[d]? with
        | some (.v (.one (.c .bool x))) => (match x with
          | true => if want then evOp X M slot o ⟨st.tm.set d (.v (.one (.c .bool true))), st.hp⟩ fun st' => evOps X M ops rest (slot + if isAl o.op then 1 else 0) st' K
              else evOps X M ops rest (slot + if isAl o.op then 1 else 0) ⟨putA (st.tm.set d (.v (.one (.c .bool true)))) o.dst (.tup []), st.hp⟩ K
          | false => if want then evOps X M ops rest (slot + if isAl o.op then 1 else 0) ⟨putA (st.tm.set d (.v (.one (.c .bool false)))) o.dst (.tup []), st.hp⟩ K
              else evOp X M slot o ⟨st.tm.set d (.v (.one (.c .bool false))), st.hp⟩ fun st' => evOps X M ops rest (slot + if isAl o.op then 1 else 0) st' K)
        | some (.tup []) => evOps X M ops rest (slot + if isAl o.op then 1 else 0) ⟨putA st.tm o.dst (.tup []), st.hp⟩ K
        | _ => False

section
variable {P : Program} {X : Tbl P} {M : Mode P} {w0 : World} {S : Who} {E0 : Env} {n : Nat}

/-- The state of knowledge holds. -/
def Rel (w0 : World) (S : Who) (E0 : Env) (n : Nat) (st : St) (a : Act) (w : World) : Prop := ∃ E, E.w = w ∧ E.hp = st.hp ∧ HR w0 S E ∧ TR E st.tm a.tmps ∧ LeN n E0 E ∧ a.defers = []

theorem TR.put {E : Env} {tm : List AV} {a : Act} (h : TR E tm a.tmps) (d : Option Tmp) {r : AV} {v : Value} (hv : AVR E r v) : TR E (putA tm d r) (a.put d v).tmps := by
  cases d with
  | none => exact h
  | some d =>
    obtain ⟨h1, h2⟩ := h
    refine ⟨by simp [putA, Act.put, h1], fun t => ?_⟩
    simp only [putA, Act.put, List.getD_eq_getElem?_getD, Array.getD_eq_getD_getElem?, List.getElem?_set, Array.getElem?_setIfInBounds]
    by_cases e : d = t
    · subst e
      simp only [if_true]
      by_cases hl : d < tm.length
      · have hl' : d < a.tmps.size := h1 ▸ hl
        rw [if_pos hl, if_pos hl']; exact hv
      · have hl' : ¬ d < a.tmps.size := h1 ▸ hl
        rw [if_neg hl, if_neg hl']; trivial
    · rw [if_neg e, if_neg e]
      have := h2 t
      simpa only [List.getD_eq_getElem?_getD, Array.getD_eq_getD_getElem?] using this

theorem TR.le {E E' : Env} (h : Le E E') {tm : List AV} {tmps : Array Value} (ht : TR E tm tmps) : TR E' tm tmps := ⟨ht.1, fun t => (ht.2 t).le h⟩

/-- A call is as its mode says. -/
def ModeOk (P : Program) (M : Mode P) : Prop := ∀ k args hp K, M k args hp K → ACall P k args hp K

theorem segs_args {E : Env} {tm : List AV} {a : Act} (ht : TR E tm a.tmps) : ∀ (l : List (Operand × TypeId)), Segs (fun a cs => ∃ v, cs = [v] ∧ CVR E a v) (l.map fun x => (opd X x.2 tm x.1).cv) (l.map fun x => a.eval x.1)
  | [] => rfl
  | x :: l => ⟨_, _, rfl, ⟨_, rfl, cv_ok (opd_ok ht _ _)⟩, segs_args ht l⟩

theorem zip_fst {α β γ : Type} (f : α → γ) : ∀ (l : List α) (m : List β), l.length = m.length → (l.zip m).map (fun x => f x.1) = l.map f
  | [], _, _ => rfl
  | a :: l, [], h => by simp at h
  | a :: l, b :: m, h => by simp only [List.zip_cons_cons, List.map_cons, zip_fst f l m (by simpa using h)]

theorem segs_caps {E : Env} : ∀ {caps : List SV} {vs : List Value}, Segs (fun a cs => ∃ v, cs = [v] ∧ SVR E a v) caps vs → Segs (fun a cs => ∃ v, cs = [v] ∧ CVR E a v) (caps.map CV.one) vs
  | [], _, h => h
  | b :: caps, _, ⟨c1, c2, e, h1, h2⟩ => ⟨c1, c2, e, h1, segs_caps h2⟩

theorem equal_nil {T e : TypeId} (h : P.underlying T = some (.slice e)) (A : Option Addr) (n c : Nat) (w : World) : (Op.equal T (.slice A n c) (.slice none 0 0)).run P w = .ok A.isNone w := by
  have e : Op.equal T (.slice A n c) (.slice none 0 0) = Op.equalIn (9999 + 1) T (.slice A n c) (.slice none 0 0) := rfl
  rw [e]
  generalize 9999 = d
  cases A <;> simp only [Op.equalIn, Sem.run_bind, run_underlying h, Result.andThen_ok, Sem.run_pure] <;> rfl

theorem rowLen_ok {E : Env} (h : HR w0 S E) {a : SV} {v : Value} {m : Nat} (hm : evOp1.rowLen E.hp a = some m) (hv : SVR E a v) : ∃ A k c, v = .slice A k c ∧ (A = none → m = 0) := by
  cases a with
  | c t x =>
    cases t with
    | sl e =>
      simp only [evOp1.rowLen, Option.some.injEq] at hm
      subst hm
      obtain ⟨cs, ⟨A, c, rfl, hc, hk⟩, rfl⟩ := hv
      refine ⟨A, _, c, rfl, fun hA => ?_⟩
      by_cases hne : (x : List e.D) = []
      · rw [hne]; rfl
      · obtain ⟨b, o, e', _⟩ := hk hne
        rw [hA] at e'; cases e'
    | _ => simp [evOp1.rowLen] at hm
  | nl t =>
    simp only [evOp1.rowLen, Option.some.injEq] at hm
    subst hm
    exact ⟨none, 0, 0, hv, fun _ => rfl⟩
  | ref id ver t off len =>
    simp only [evOp1.rowLen, Option.map_eq_some_iff] at hm
    obtain ⟨xs, hxs, rfl⟩ := hm
    have hb := rowOf_some hxs
    obtain ⟨hn, hv1⟩ := hv
    obtain ⟨hle, hv3⟩ := (hv1 xs ver hb).2 rfl
    have hroot := h.root id _ hb
    simp only [RootR] at hroot
    split at hv3
    · rename_i hl
      rw [hl] at hroot
      subst hroot
      simp at hle
      exact ⟨none, 0, 0, hv3, fun _ => hle.2⟩
    · rename_i l hl
      rw [hl] at hroot
      obtain ⟨A, hv3, hA⟩ := hv3
      obtain ⟨ty, cells, _, hcap, hlen, _⟩ := hroot
      refine ⟨A, len, _, hv3, fun e => ?_⟩
      rcases Nat.eq_zero_or_pos len with h0 | h0
      · exact h0
      · rw [hA (by omega)] at e; cases e
  | _ => simp [evOp1.rowLen] at hm

theorem lenKnow_ok {T : TypeId} {E : Env} (h : HR w0 S E) {a : SV} {v : Value} (hv : SVR E a v) {n : Int} (hl : lenF X T E.hp a = some n) : lenKnow a (.v (.one (.c (.int .i64) n))) := by
  cases a with
  | c t x =>
    cases t with
    | sl e =>
      simp only [lenF] at hl
      split at hl
      · split at hl
        · simp only [Option.some.injEq] at hl
          subst hl
          obtain ⟨cs, ⟨A, c, rfl, hc, hk⟩, rfl⟩ := hv
          show (0 : Int) ≤ ((List.length (α := e.D) x : Nat) : Int) ∧ ((List.length (α := e.D) x : Nat) : Int) ≤ 140737488355328
          omega
        · cases hl
      · cases hl
    | str => trivial
    | _ => simp [lenF] at hl
  | nl t =>
    simp only [lenF] at hl
    split at hl
    · split at hl
      · simp only [Option.some.injEq] at hl
        subst hl
        show (0 : Int) ≤ 0 ∧ (0 : Int) ≤ 140737488355328
        omega
      · cases hl
    · cases hl
  | ref id ver t off len =>
    simp only [lenF] at hl
    split at hl
    · rename_i i xs hX hxs
      split at hl
      · simp only [Option.some.injEq] at hl
        subst hl
        have hb := rowOf_some hxs
        obtain ⟨hn, hv1⟩ := hv
        obtain ⟨hle, hv3⟩ := (hv1 xs ver hb).2 rfl
        have hroot := h.root id _ hb
        simp only [RootR] at hroot
        show (0 : Int) ≤ (len : Int) ∧ (len : Int) ≤ 140737488355328
        split at hroot
        · subst hroot
          simp at hle
          omega
        · obtain ⟨ty, cells, _, hcap, hlen, _⟩ := hroot
          omega
      · cases hl
    · cases hl
  | _ => simp [lenF] at hl

theorem know_ok {E : Env} {tm : List AV} {a : Act} (h : HR w0 S E) (hT : TR E tm a.tmps) {slot : Nat} {o : Oper} {p : Prop} {r : AV} {hp' : List HC} (hf : fOp X slot o tm E.hp = some (p, r, hp')) : know X o tm r := by
  unfold know
  split
  · rename_i c ho
    split
    · rename_i x T h1 h2 h3
      simp only [fOp, ho, h1, h2, h3] at hf
      split at hf
      · rename_i n hn
        simp only [Option.some.injEq, Prod.mk.injEq] at hf
        obtain ⟨_, rfl, _⟩ := hf
        exact lenKnow_ok h (sv_ok (cv_ok (opd_ok hT T x))) hn
      · cases hf
    · trivial
  · trivial

theorem evOp1_ok (hM : ModeOk P M) {slot : Nat} {o : Oper} {st : St} {K : St → Prop} {a : Act} {w : World}
    (hr : Rel w0 S E0 n st a w) (h : evOp1 X M slot o st K)
    (next : Act → World → Prop) (Q : Exit → Act → World → Prop) (hnext : ∀ st' a' w', K st' → Rel w0 S E0 n st' a' w' → next a' w') : o.wp P a w next Q := by
  obtain ⟨E, rfl, hhp, hR, hT, hle, hdef⟩ := hr
  unfold evOp1 at h
  split at h
  · rename_i p r hp' hf
    obtain ⟨hp, hslot, hK⟩ := h
    rw [← hhp] at hf
    have hK := hK (know_ok hR hT hf)
    obtain ⟨nx, E', h1, h2, h3, h4, h5⟩ := fOp_ok hR hT (fun h => by rw [hhp]; exact hslot h) hf hp
    simp only [Oper.wp, h1]
    rcases h5 with ⟨v, rfl, hv⟩ | ⟨rfl, rfl⟩
    · exact hnext _ _ _ hK ⟨E', rfl, h2, h4, (hT.le h3).put o.dst hv, hle.trans (h3.n n), by cases o.dst <;> exact hdef⟩
    · exact hnext _ _ _ hK ⟨E', rfl, h2, h4, (hT.le h3).put o.dst (v := undef) trivial, hle.trans (h3.n n), by cases o.dst <;> exact hdef⟩
  · split at h
    · rename_i c ho
      split at h
      · rename_i f hcal
        split at h
        · rename_i k caps hfn
          obtain ⟨hsize, h⟩ := h
          obtain ⟨⟨fn, hfk, hbody, hname⟩, hcall⟩ := hM _ _ _ _ h
          have hfv := opd_ok (X := X) hT 0 f
          rw [hfn] at hfv
          obtain ⟨vs, hfv, hcaps⟩ := hfv
          have hargs : Segs (fun a cs => ∃ v, cs = [v] ∧ CVR E a v) (((c.args.toList.zip c.argTypes.toList).map fun x => (opd X x.2 st.tm x.1).cv) ++ caps.map CV.one) (c.args.toList.map a.eval ++ vs) := by
            refine Segs.append ?_ ?_
            · rw [← zip_fst a.eval c.args.toList c.argTypes.toList (by simpa using hsize)]
              exact segs_args hT _
            · exact segs_caps hcaps
          have := hcall w0 S E _ hR hhp hargs
          have hexec : (execOp a.eval o).run P E.w = .ok (.enter k (c.args.map a.eval ++ vs.toArray)) E.w := by
            have hnb : fn.body.isNone = false := by simpa using hbody
            have hn2 : (fn.name == "runtime.NumGoroutine") = false := by simpa using hname
            simp only [execOp, ho, Sem.run_bind, resolve, hcal, hfv, Deferred.ofValue, Sem.run_pure, Result.andThen_ok, invoke, callFunc, run_program, hfk, hn2, hnb, Bool.false_eq_true, if_false]
            simp
          simp only [Oper.wp, hexec, Oper.upon_enter]
          have he : (c.args.toList.map a.eval ++ vs).toArray = c.args.map a.eval ++ vs.toArray := by simp
          rw [← he]
          refine this.mono fun e w' ⟨av, E', v, h1, h2, h3, h4, h5, h6⟩ => ?_
          subst h1 h3
          exact hnext _ _ _ h2 ⟨E', rfl, rfl, h5, (hT.le h4).put o.dst h6, hle.trans (h4.n n), by cases o.dst <;> exact hdef⟩
        · exact h.elim
      · exact h.elim
    · rename_i T x yT ho
      split at h
      · rename_i i m hX hm
        split at h
        · rename_i hsl
          have hx := sv_ok (cv_ok (opd_ok (X := X) hT T x))
          rw [← hhp] at hm
          obtain ⟨A, k, c, hv, hA⟩ := rowLen_ok hR hm hx
          have hexec : (execOp a.eval o).run P E.w = .ok (.value (.bool A.isNone)) E.w := by
            have hu := isSl_und hX hsl
            have hg : (eqGuard .eql T x (.const (.slice none 0 0)) (.slice A k c) (.slice none 0 0)).run P E.w = .ok () E.w := rfl
            simp only [execOp, ho, Sem.run_bind, hv, show a.eval (.const (.slice none 0 0)) = .slice none 0 0 from rfl, hg, Result.andThen_ok, binOp, equal_nil hu, Sem.run_pure]
          simp only [Oper.wp, hexec, Oper.upon_value]
          refine hnext _ _ _ (h A.isNone (fun e => hA (by simpa using e))) ⟨E, rfl, hhp, hR, hT.put o.dst isBool, hle, by cases o.dst <;> exact hdef⟩
        · exact h.elim
      · exact h.elim
    · exact h.elim

theorem Rel.fz : ∀ {l : List Nat} {st : St} {a : Act} {w : World}, Rel w0 S E0 n st a w → Rel w0 S E0 n (fz l st) a w
  | [], _, _, _, h => h
  | id :: l, st, a, w, h => by
    simp only [Ev.fz]
    split
    · rename_i hi
      obtain ⟨E, h1, h2, h3, h4, h5, h6⟩ := h
      rw [← h2] at hi
      obtain ⟨E', e1, e2, e3, e4, e5⟩ := frz_env h3 hi
      exact Rel.fz ⟨E', e1.trans h1, by rw [e2, h2]; rfl, e3, by rw [← h2]; exact h4.frz e5, h5.trans (e4.n n), h6⟩
    · exact Rel.fz h

theorem Rel.prep {o : Oper} {st : St} {a : Act} {w : World} (h : Rel w0 S E0 n st a w) : Rel w0 S E0 n (prep X o st) a w := by
  unfold Ev.prep
  split
  · exact h.fz
  · split
    · exact h.fz
    · exact h
  · split
    · split
      · split
        · exact h
        · split
          · exact h.fz
          · exact h
      · exact h
    · exact h
  · exact h

theorem evOp_ok (hM : ModeOk P M) {slot : Nat} {o : Oper} {st : St} {K : St → Prop} {a : Act} {w : World}
    (hr : Rel w0 S E0 n st a w) (h : evOp X M slot o st K)
    (next : Act → World → Prop) (Q : Exit → Act → World → Prop) (hnext : ∀ st' a' w', K st' → Rel w0 S E0 n st' a' w' → next a' w') : o.wp P a w next Q := evOp1_ok hM hr.prep h next Q hnext

theorem TR.set {E : Env} {tm : List AV} {tmps : Array Value} (h : TR E tm tmps) (d : Nat) {r : AV} (hv : AVR E r (tmps.getD d undef)) : TR E (tm.set d r) tmps := by
  obtain ⟨h1, h2⟩ := h
  refine ⟨by simpa using h1, fun t => ?_⟩
  rw [List.getD_eq_getElem?_getD, List.getElem?_set]
  by_cases e : d = t
  · subst e
    rw [if_pos rfl]
    split
    · exact hv
    · trivial
  · rw [if_neg e]
    have := h2 t
    rwa [List.getD_eq_getElem?_getD] at this

theorem Rel.set {st : St} {a : Act} {w : World} (h : Rel w0 S E0 n st a w) (d : Nat) {r : AV} (hv : ∀ E : Env, AVR E r (a.tmps.getD d undef)) : Rel w0 S E0 n ⟨st.tm.set d r, st.hp⟩ a w := by
  obtain ⟨E, h1, h2, h3, h4, h5, h6⟩ := h
  exact ⟨E, h1, h2, h3, h4.set d (hv E), h5, h6⟩

theorem Rel.skip {st : St} {a : Act} {w : World} (h : Rel w0 S E0 n st a w) (d : Option Tmp) : Rel w0 S E0 n ⟨putA st.tm d (.tup []), st.hp⟩ (a.put d undef) w := by
  obtain ⟨E, h1, h2, h3, h4, h5, h6⟩ := h
  exact ⟨E, h1, h2, h3, h4.put d (v := undef) ⟨[], rfl, rfl⟩, h5, by cases d <;> exact h6⟩

theorem Rel.bool {st : St} {a : Act} {w : World} (h : Rel w0 S E0 n st a w) {d : Nat} {x : Bool} (hd : st.tm[d]? = some (.v (.one (.c .bool x)))) : a.tmps[d]? = some (.bool x) := by
  obtain ⟨E, h1, h2, h3, h4, h5, h6⟩ := h
  have h7 := h4.2 d
  rw [List.getD_eq_getElem?_getD, hd] at h7
  have hlt : d < a.tmps.size := h4.1 ▸ (List.getElem?_eq_some_iff.1 hd).1
  have := oneBool h7
  rw [Array.getD_eq_getD_getElem?, Array.getElem?_eq_getElem hlt] at this
  rw [Array.getElem?_eq_getElem hlt]
  simpa using this

theorem Rel.tup {st : St} {a : Act} {w : World} (h : Rel w0 S E0 n st a w) {d : Nat} (hd : st.tm[d]? = some (.tup [])) : a.tmps[d]? = some (.tuple #[]) := by
  obtain ⟨E, h1, h2, h3, h4, h5, h6⟩ := h
  have h7 := h4.2 d
  rw [List.getD_eq_getElem?_getD, hd] at h7
  have hlt : d < a.tmps.size := h4.1 ▸ (List.getElem?_eq_some_iff.1 hd).1
  obtain ⟨vs, e, hs⟩ := h7
  cases hs
  rw [Array.getD_eq_getD_getElem?, Array.getElem?_eq_getElem hlt] at e
  rw [Array.getElem?_eq_getElem hlt]
  simpa using e

theorem evOps_ok (hM : ModeOk P M) (ops : Array Oper) {Q : Exit → Act → World → Prop} {K : St → Prop} (hQ : ∀ st a w, K st → Rel w0 S E0 n st a w → Q .normal a w) :
    ∀ (l : List Oper) (i slot : Nat) (st : St) (a : Act) (w : World), ops.toList.drop i = l → Rel w0 S E0 n st a w → evOps X M ops.toList l slot st K → wpOps P ops Q (List.range' i l.length) a w
  | [], i, slot, st, a, w, hd, hr, h => by simpa [wpOps] using hQ st a w h hr
  | o :: rest, i, slot, st, a, w, hd, hr, h => by
    have hi : ops[i]? = some o := by
      have : (ops.toList.drop i)[0]? = some o := by rw [hd]; rfl
      rw [List.getElem?_drop] at this
      simpa using this
    have hd' : ops.toList.drop (i + 1) = rest := by
      rw [← List.drop_drop, hd]; rfl
    have next : ∀ slot' st' a' w', evOps X M ops.toList rest slot' st' K → Rel w0 S E0 n st' a' w' → wpOps P ops Q (List.range' (i + 1) rest.length) a' w' := fun slot' st' a' w' h' hr' => evOps_ok hM ops hQ rest (i + 1) slot' st' a' w' hd' hr' h'
    have exec : ∀ slot st', Rel w0 S E0 n st' a w → evOp X M slot o st' (fun st'' => evOps X M ops.toList rest (slot + if isAl o.op then 1 else 0) st'' K) → Region.wanted o (yielded ops a.tmps) = true → wpOps P ops Q (List.range' i (o :: rest).length) a w := by
      intro slot st' hr' h' hw
      rw [List.length_cons, List.range'_succ]
      simp only [wpOps, hi, hw, if_true]
      exact .inl (evOp_ok hM hr' h' _ _ fun st'' a' w' hK hr'' => next _ st'' a' w' hK hr'')
    have skip : ∀ slot' st', Rel w0 S E0 n st' a w → evOps X M ops.toList rest slot' ⟨putA st'.tm o.dst (.tup []), st'.hp⟩ K → Region.wanted o (yielded ops a.tmps) = false → wpOps P ops Q (List.range' i (o :: rest).length) a w := by
      intro slot' st' hr' h' hw
      rw [List.length_cons, List.range'_succ]
      simp only [wpOps, hi, hw, Bool.false_eq_true, if_false]
      exact next _ _ _ _ h' (hr'.skip o.dst)
    simp only [evOps] at h
    split at h
    · rename_i hg
      exact exec slot st hr h (by simp [Region.wanted, hg])
    · rename_i j want hg
      split at h
      · exact h.elim
      · rename_i d hdst
        have hyld : ∀ b, a.tmps[d]? = some (.bool b) → Region.wanted o (yielded ops a.tmps) = (b == want) := by
          intro b hb
          have : (ops[j]?).bind (·.dst) = some d := by simpa using hdst
          simp only [Region.wanted, hg, yielded, this, Option.bind_some, hb]
          cases b <;> cases want <;> rfl
        split at h
        · rename_i x hx
          have hxv := hr.bool hx
          have hset : ∀ b, b = x → Rel w0 S E0 n ⟨st.tm.set d (.v (.one (.c .bool b))), st.hp⟩ a w := fun b e => hr.set d fun E => by
            subst e
            have : a.tmps.getD d undef = .bool b := by rw [Array.getD_eq_getD_getElem?, hxv]; rfl
            rw [this]; exact isBool
          cases x with
          | true =>
            simp only at h
            cases want with
            | true => exact exec slot _ (hset true rfl) (by simpa using h) (by rw [hyld _ hxv]; rfl)
            | false => exact skip _ _ (hset true rfl) (by simpa using h) (by rw [hyld _ hxv]; rfl)
          | false =>
            simp only at h
            cases want with
            | true => exact skip _ _ (hset false rfl) (by simpa using h) (by rw [hyld _ hxv]; rfl)
            | false => exact exec slot _ (hset false rfl) (by simpa using h) (by rw [hyld _ hxv]; rfl)
        · rename_i hx
          have hxv := hr.tup hx
          refine skip _ _ hr h ?_
          have : (ops[j]?).bind (·.dst) = some d := by simpa using hdst
          simp only [Region.wanted, hg, yielded, this, Option.bind_some, hxv]
          rfl
        · exact h.elim
end
end Go.Proofs.Ytgkjgpiggjjmpaa.Ev
