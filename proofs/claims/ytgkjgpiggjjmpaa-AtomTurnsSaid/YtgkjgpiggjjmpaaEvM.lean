/- Lemmas for the claim: What is proved of functions, in a table; calls and drawn regions by it. (no condition.) -/
import Derived.Test.YtgkjgpiggjjmpaaEv30
import Derived.Test.YtgkjgpiggjjmpaaEvQ
/-! What is proved of functions, in a table; calls and drawn regions by it. -/
namespace Go.Proofs.Ytgkjgpiggjjmpaa.Ev
open Go
set_option linter.unusedVariables false

@[reducible] def Tup : List Ty → Type
  | [] => Unit
  | t :: ts => t.D × Tup ts
def cvs : (ts : List Ty) → Tup ts → List CV
  | [], _ => []
  | t :: ts, x => .one (.c t x.1) :: cvs ts x.2
def typed : (ts : List Ty) → List CV → Option (Tup ts)
  | [], [] => some ()
  | t :: ts, a :: l => match toT t a with
    | some x => match typed ts l with
      | some y => some (x, y)
      | none => none
    | none => none
  | _, _ => none

structure Con where
  ts : List Ty
  f : Tup ts → Prop × AV × List HC
structure LCon where
  run : List CV → List HC → Option (Prop × AV × List HC)
inductive Co where
  | val (c : Con)
  | lend (c : LCon)

def Con.Ok (P : Program) (k : Nat) (c : Con) : Prop := ∀ x, (c.f x).1 → ACall P k (cvs c.ts x) [] fun r h => r = (c.f x).2.1 ∧ h = (c.f x).2.2
def LCon.Ok (P : Program) (k : Nat) (c : LCon) : Prop := ∀ args hp p v h', c.run args hp = some (p, v, h') → p → ACall P k args hp fun r h => r = v ∧ h = h'
def Co.Ok (P : Program) (k : Nat) : Co → Prop
  | .val c => c.Ok P k
  | .lend c => c.Ok P k

/-- What is reached. -/
def addId (l : List Nat) (id : Nat) : List Nat := match l.contains id with
  | true => l
  | false => l ++ [id]
def reachBox (hp : List HC) (id : Nat) : List Nat := match hp[id]? with
  | some (.live (.box ls)) => svsAt ls
  | _ => []
def reach (hp : List HC) (args : List CV) : List Nat := ((cvsAt args) ++ (cvsAt args).flatMap (reachBox hp)).foldl addId []

section
variable {P : Program} {E : Env}

theorem toT_kc {t : Ty} {a : CV} {x : t.D} {v : Value} (h : toT t a = some x) (hv : CVR E a v) : CVR E (.one (.c t x)) v := by
  cases ht : t.isAgg with
  | true => exact toT_val ht h hv
  | false =>
    cases a with
    | one b =>
      cases b with
      | c t' y =>
        have h' : (if h : t' = t then some (cast (congrArg Ty.D h) y) else none) = some x := by cases t <;> exact h
        split at h'
        · rename_i e
          subst e
          simp only [cast_eq, Option.some.injEq] at h'
          subst h'
          exact hv
        · cases h'
      | nl t' =>
        cases t with
        | sl e =>
          simp only [toT, Option.some.injEq] at h
          subst h
          have hv : v = .slice none 0 0 := hv
          subst hv
          exact ⟨[_], ⟨none, 0, rfl, ⟨Nat.le_refl 0, Nat.zero_le _⟩, fun h => absurd rfl h⟩, rfl⟩
        | _ => simp [toT] at h
      | _ => cases t <;> simp [toT] at h
    | agg l =>
      cases t with
      | sl e => simp [toT, Ty.isPair] at h
      | _ => first | (simp [Ty.isAgg] at ht; done) | simp [toT, Ty.isPair] at h
    | fn f caps => cases t <;> simp [toT] at h

theorem typed_ok : ∀ {ts : List Ty} {args : List CV} {x : Tup ts} {vs : List Value}, typed ts args = some x → Segs (fun a cs => ∃ v, cs = [v] ∧ CVR E a v) args vs → Segs (fun a cs => ∃ v, cs = [v] ∧ CVR E a v) (cvs ts x) vs
  | [], [], x, vs, h, hs => hs
  | t :: ts, a :: l, x, vs, h, ⟨c1, c2, e, ⟨v, e1, hv⟩, h2⟩ => by
    simp only [typed] at h
    split at h
    · rename_i y hy
      split at h
      · rename_i z hz
        simp only [Option.some.injEq] at h
        subst h
        exact ⟨c1, c2, e, ⟨v, e1, toT_kc hy hv⟩, typed_ok hz h2⟩
      · cases h
    · cases h
  | [], a :: l, x, vs, h, hs => by simp [typed] at h
  | t :: ts, [], x, vs, h, hs => by simp [typed] at h

theorem ACall.args {k : Nat} {args args' : List CV} {hp : List HC} {K : AV → List HC → Prop} (h : ACall P k args' hp K) (ha : ∀ (E : Env) (vs : List Value), Segs (fun a cs => ∃ v, cs = [v] ∧ CVR E a v) args vs → Segs (fun a cs => ∃ v, cs = [v] ∧ CVR E a v) args' vs) : ACall P k args hp K :=
  ⟨h.1, fun w0 S E vs h1 h2 h3 => h.2 w0 S E vs h1 h2 (ha E vs h3)⟩
theorem ACall.typed {k : Nat} {ts : List Ty} {args : List CV} {hp : List HC} {K : AV → List HC → Prop} {x : Tup ts} (hx : typed ts args = some x) (h : ACall P k (cvs ts x) hp K) : ACall P k args hp K :=
  h.args fun _ _ hs => typed_ok hx hs
end

/-! Calls in order. -/
def tK (cl : Bool) (hp : List HC) (K : AV → List HC → Prop) : Prop × AV × List HC → Prop
  | (p, v, hs) => p ∧ (cl || (v.flat && hs.all HC.flat)) = true ∧ K (renAV (up hp.length) v) (hp ++ hs.map (renHC (up hp.length)))
def tV {α : Type} (f : α → Prop × AV × List HC) (cl : Bool) (hp : List HC) (K : AV → List HC → Prop) : Option α → Prop
  | some x => tK cl hp K (f x)
  | none => False
def tS (c : Con) (hp : List HC) (K : AV → List HC → Prop) : Option (List CV) → Prop
  | some args => tV c.f false hp K (typed c.ts args)
  | none => False
def tC (c : Con) (args : List CV) (hp : List HC) (K : AV → List HC → Prop) : Bool → Prop
  | true => tV c.f true hp K (typed c.ts args)
  | false => tS c hp K (snapArgs hp args)
def tR (ids : List Nat) (hp : List HC) (K : AV → List HC → Prop) : Option (Prop × AV × List HC) → Prop
  | some (p, v, h') => p ∧ K (renAV (sig ids hp.length) v) (backHp ids hp h')
  | none => False
def tL (c : LCon) (args : List CV) (hp : List HC) (K : AV → List HC → Prop) (ids : List Nat) : Prop :=
  (noDup ids && ids.all (isLiveAt hp)) = true ∧ tR ids hp K (c.run (args.map (renCV (idx ids))) (lendHp ids hp))
def tG (P : Program) (k : Nat) (args : List CV) (hp : List HC) (K : AV → List HC → Prop) : Option Co → Prop
  | some (.val c) => tC c args hp K (args.all CV.cl)
  | some (.lend c) => tL c args hp K (reach hp args)
  | none => ACall P k args hp K
def tD (P : Program) (con : Nat → Option Co) (k : Nat) (args : List CV) (hp : List HC) (K : AV → List HC → Prop) : Bool → Prop
  | true => tG P k args hp K (con k)
  | false => ACall P k args hp K
/-- Calls by the table, of these functions. -/
def tabM (P : Program) (con : Nat → Option Co) (deps : List Nat) : Mode P := fun k args hp K => tD P con k args hp K (deps.contains k)

def Deps (P : Program) (con : Nat → Option Co) (deps : List Nat) : Prop := ∀ k ∈ deps, ∀ c, con k = some c → c.Ok P k
theorem Deps.nil {P : Program} {con : Nat → Option Co} : Deps P con [] := fun _ h => by cases h
theorem Deps.cons {P : Program} {con : Nat → Option Co} {k : Nat} {l : List Nat} {c : Co} (hc : con k = some c) (h : c.Ok P k) (hl : Deps P con l) : Deps P con (k :: l) := fun j hj d hd => by
  rcases List.mem_cons.1 hj with rfl | hj
  · rw [hc] at hd; cases hd; exact h
  · exact hl j hj d hd

theorem tV_ok {P : Program} {c : Con} {k : Nat} (hc : c.Ok P k) {args : List CV} {hp : List HC} {K : AV → List HC → Prop} (hcl : args.all CV.cl = true) (h : tV c.f true hp K (typed c.ts args)) : ACall P k args hp K := by
  cases hx : typed c.ts args with
  | none => rw [hx] at h; exact h.elim
  | some x =>
    rw [hx] at h
    simp only [tV] at h
    cases hf : c.f x with
    | mk p vh =>
      obtain ⟨v, hs⟩ := vh
      rw [hf] at h
      obtain ⟨hp1, _, hK⟩ := h
      refine iso0 hcl (ACall.typed hx ((hc x (by rw [hf]; exact hp1)).mono ?_))
      rintro r h' ⟨e1, e2⟩
      rw [hf] at e1 e2
      subst e1 e2
      exact hK

theorem tabM_ok {P : Program} {con : Nat → Option Co} {deps : List Nat} (H : Deps P con deps) : ModeOk P (tabM P con deps) := by
  intro k args hp K h
  unfold tabM tD at h
  split at h
  · rename_i hk
    have hmem : k ∈ deps := by simpa using hk
    unfold tG at h
    split at h
    · rename_i c hcon
      have hc := H k hmem _ hcon
      unfold tC at h
      split at h
      · rename_i hcl
        exact tV_ok hc hcl h
      · unfold tS at h
        split at h
        · rename_i args' hs
          cases hx : typed c.ts args' with
          | none => rw [hx] at h; exact h.elim
          | some x =>
            rw [hx] at h
            simp only [tV] at h
            cases hf : c.f x with
            | mk p vh =>
              obtain ⟨v, hss⟩ := vh
              rw [hf] at h
              obtain ⟨hp1, hfl, hK⟩ := h
              simp only [Bool.false_or, Bool.and_eq_true] at hfl
              refine iso1 hs (ACall.typed hx ((hc x (by rw [hf]; exact hp1)).mono ?_))
              rintro r h' ⟨e1, e2⟩
              rw [hf] at e1 e2
              subst e1 e2
              exact ⟨hfl, hK⟩
        · exact h.elim
    · rename_i c hcon
      have hc := H k hmem _ hcon
      obtain ⟨h1, h2⟩ := h
      simp only [Bool.and_eq_true] at h1
      unfold tR at h2
      split at h2
      · rename_i p v h' hrun
        refine lend_call _ h1.1 h1.2 ((hc _ _ p v h' hrun h2.1).mono ?_)
        rintro r h'' ⟨rfl, rfl⟩
        exact h2.2
      · exact h2.elim
    · exact h
  · exact h

/-! Calls in a drawn region. -/
def uK (cl : Bool) (Φ : AV → List HC → Prop) : Prop × AV × List HC → Prop
  | (p, v, []) => p ∧ (v.cl && (cl || v.flat)) = true ∧ Φ v []
  | _ => False
def uV {α : Type} (f : α → Prop × AV × List HC) (cl : Bool) (Φ : AV → List HC → Prop) : Option α → Prop
  | some x => uK cl Φ (f x)
  | none => False
def uS (c : Con) (Φ : AV → List HC → Prop) : Option (List CV) → Prop
  | some args => uV c.f false Φ (typed c.ts args)
  | none => False
def uC (c : Con) (args : List CV) (hp : List HC) (Φ : AV → List HC → Prop) : Bool → Prop
  | true => uV c.f true Φ (typed c.ts args)
  | false => uS c Φ (snapArgsS hp args)
def uR (ids : List Nat) (hp : List HC) (Φ : AV → List HC → Prop) : Option (Prop × AV × List HC) → Prop
  | some (p, v, h') => p ∧ (v.cl && h'.length == ids.length) = true ∧ Φ v (h'.map (renHC (sig ids hp.length)))
  | none => False
def uL (c : LCon) (args : List CV) (hp : List HC) (Φ : AV → List HC → Prop) (ids : List Nat) : Prop :=
  (noDup ids && ids.all (isLiveAt hp) && !(ids.all (isFreshAt hp))) = true ∧ uR ids hp Φ (c.run (args.map (renCV (idx ids))) (lendHp ids hp))
def uY (ids : List Nat) (Φ : AV → List HC → Prop) : Prop × AV × List HC → Prop
  | (p, v, hs) => p ∧ (hs.length == ids.length) = true ∧ Φ (renAV (Ev.pos ids) v) (hs.map (renHC (Ev.pos ids)))
def uX {α : Type} (f : α → Prop × AV × List HC) (ids : List Nat) (Φ : AV → List HC → Prop) : Option α → Prop
  | some x => uY ids Φ (f x)
  | none => False
def uF (c : Con) (args : List CV) (hp : List HC) (Φ : AV → List HC → Prop) (ids : List Nat) : Prop :=
  (noDup ids && ids.all (isFreshAt hp) && args.all CV.cl) = true ∧ uX c.f ids Φ (typed c.ts args)
def uG (P : Program) (k : Nat) (args : List CV) (hp : List HC) (Φ : AV → List HC → Prop) : List Nat → Option Co → Prop
  | [], some (.val c) => uC c args hp Φ (args.all CV.cl)
  | a :: l, some (.lend c) => uL c args hp Φ (a :: l)
  | a :: l, some (.val c) => uF c args hp Φ (a :: l)
  | ids, _ => callW P k args hp ids Φ
def uD (P : Program) (con : Nat → Option Co) (k : Nat) (args : List CV) (hp : List HC) (Φ : AV → List HC → Prop) (ids : List Nat) : Bool → Prop
  | true => uG P k args hp Φ ids (con k)
  | false => callW P k args hp ids Φ

theorem uV_ok {P : Program} {c : Con} {k : Nat} (hc : c.Ok P k) {args : List CV} {cl : Bool} {Φ : AV → List HC → Prop} (h : uV c.f cl Φ (typed c.ts args)) : ACall P k args [] fun r h => h = [] ∧ r.cl = true ∧ (cl = true ∨ r.flat = true) ∧ Φ r [] := by
  cases hx : typed c.ts args with
  | none => rw [hx] at h; exact h.elim
  | some x =>
    rw [hx] at h
    simp only [uV] at h
    cases hf : c.f x with
    | mk p vh =>
      obtain ⟨v, hs⟩ := vh
      rw [hf] at h
      cases hs with
      | cons a l => exact h.elim
      | nil =>
        obtain ⟨hp1, hfl, hK⟩ := h
        simp only [Bool.and_eq_true, Bool.or_eq_true] at hfl
        refine ACall.typed hx ((hc x (by rw [hf]; exact hp1)).mono ?_)
        rintro r h' ⟨e1, e2⟩
        rw [hf] at e1 e2
        subst e1 e2
        exact ⟨rfl, hfl.1, hfl.2, hK⟩

theorem uD_ok {P : Program} {con : Nat → Option Co} {deps : List Nat} (H : Deps P con deps) {k : Nat} {args : List CV} {hp : List HC} {ids : List Nat} {Φ : AV → List HC → Prop} (h : uD P con k args hp Φ ids (deps.contains k)) : callW P k args hp ids Φ := by
  unfold uD at h
  split at h
  · rename_i hk
    have hmem : k ∈ deps := by simpa using hk
    unfold uG at h
    split at h
    · rename_i c hcon
      have hc := H k hmem _ hcon
      unfold uC at h
      split at h
      · rename_i hcl
        simp only [callW, callD, hcl]
        exact (uV_ok hc h).mono fun r h' ⟨a, b, _, d⟩ => ⟨a, b, d⟩
      · rename_i hcl
        unfold uS at h
        split at h
        · rename_i args' hs
          simp only [callW, callD, hcl, hs]
          exact (uV_ok hc h).mono fun r h' ⟨a, b, c, d⟩ => ⟨a, b, c.resolve_left (fun e => by cases e), d⟩
        · exact h.elim
    · rename_i a l c hcon
      have hc := H k hmem _ hcon
      obtain ⟨h1, h2⟩ := h
      simp only [Bool.and_eq_true] at h1
      unfold uR at h2
      split at h2
      · rename_i p v h' hrun
        obtain ⟨h3, h4, h5⟩ := h2
        simp only [Bool.and_eq_true, beq_iff_eq] at h4
        simp only [Bool.not_eq_true'] at h1
        refine ⟨h1.1.1, ?_⟩
        rw [h1.2]
        refine ⟨h1.1.2, (hc _ _ p v h' hrun h3).mono ?_⟩
        rintro r h'' ⟨rfl, rfl⟩
        exact ⟨h4.2, h4.1, h5⟩
      · exact h2.elim
    · rename_i a l c hcon
      have hc := H k hmem _ hcon
      obtain ⟨h1, h2⟩ := h
      simp only [Bool.and_eq_true] at h1
      cases hx : typed c.ts args with
      | none => rw [hx] at h2; exact h2.elim
      | some x =>
        rw [hx] at h2
        simp only [uX] at h2
        cases hf : c.f x with
        | mk p vh =>
          obtain ⟨v, hs⟩ := vh
          rw [hf] at h2
          obtain ⟨hp1, hl, hK⟩ := h2
          simp only [beq_iff_eq] at hl
          refine ⟨h1.1.1, ?_⟩
          rw [h1.1.2]
          refine ⟨h1.2, ACall.typed hx ((hc x (by rw [hf]; exact hp1)).mono ?_)⟩
          rintro r h' ⟨e1, e2⟩
          rw [hf] at e1 e2
          subst e1 e2
          exact ⟨hl, hK⟩
    · exact h
  · exact h

/-- A test that is left for the end. -/
def Hold (n : Nat) (b : Bool) : Prop := b = true

section
variable {P : Program} (X : Tbl P) (con : Nat → Option Co) (deps : List Nat) (W : List (Nat × List Nat))

def vF (slot : Nat) (o : Oper) (tm : List AV) (hp : List HC) (K : St → Prop) : Option (Prop × AV × List HC) → Prop
  | some (p, r, hp') => p ∧ (isAl o.op = true → hp[slot]? = some .fresh) ∧ K ⟨putA tm o.dst r, hp'⟩
  | none => False
def vC (ids : List Nat) (c : Call) (o : Oper) (tm : List AV) (hp : List HC) (K : St → Prop) : AV → Prop
  | .v (.fn k caps) => c.args.size = c.argTypes.size ∧ uD P con k (argsD X c tm caps) hp (fun r u => K ⟨putA tm o.dst r, setAll ids u hp⟩) ids (deps.contains k)
  | _ => False
def vA (ids : List Nat) (slot : Nat) (o : Oper) (tm : List AV) (hp : List HC) (K : St → Prop) : Bool → Prop
  | true => match o.op with
    | .call c => match c.callee with
      | .value f => vC X con deps ids c o tm hp K (opd X 0 tm f)
      | _ => False
    | _ => False
  | false => vF slot o tm hp K (fOp X slot o tm hp)
def vW (ids : List Nat) (slot : Nat) (o : Oper) (tm : List AV) (hp : List HC) (K : St → Prop) : Option Bool → Prop
  | some b => (match b with
    | true => vA X con deps ids slot o tm hp K (isCallV o.op)
    | false => K ⟨putA tm o.dst (.tup []), hp⟩)
  | none => False
def vL (ops : List Oper) (anc : List Nat) (base : Nat) : Nat → Nat → List Oper → St → (St → Prop) → Prop
  | _, _, [], st, K => K st
  | i, off, o :: l, st, K => Hold 0 (chkI W ops anc base i o st.tm) ∧ vW X con deps (Wof W i) (base + off) o st.tm st.hp (fun s => vL ops anc base (i + 1) (off + if isAl o.op then 1 else 0) l s K) (wantD ops o st.tm)

variable {X con deps W}

theorem vA_ok (H : Deps P con deps) {ids : List Nat} {slot : Nat} {o : Oper} {st : St} {K : St → Prop} (h : vA X con deps ids slot o st.tm st.hp K (isCallV o.op)) : evA X ids slot o st K := by
  cases hc : isCallV o.op with
  | true =>
    rw [hc] at h
    unfold evA
    rw [fOp_callV hc]
    simp only [vA] at h
    cases ho : o.op with
    | call c =>
      rw [ho] at h
      simp only at h ⊢
      cases hf : c.callee with
      | value f =>
        rw [hf] at h
        simp only at h ⊢
        unfold vC at h
        split at h
        · rename_i k caps hk
          simp only [hk]
          exact ⟨h.1, uD_ok H h.2⟩
        · exact h.elim
      | _ => rw [hf] at h; exact h.elim
    | _ => rw [ho] at h; exact h.elim
  | false =>
    rw [hc] at h
    simp only [vA] at h
    unfold vF at h
    split at h
    · rename_i p r hp' hf
      unfold evA
      simp only [hf]
      exact h
    · exact h.elim

theorem vW_ok (H : Deps P con deps) {ids : List Nat} {ops : List Oper} {slot : Nat} {o : Oper} {st : St} {K : St → Prop} (h : vW X con deps ids slot o st.tm st.hp K (wantD ops o st.tm)) : evI X ids ops slot o st K := by
  unfold vW at h
  unfold evI
  split at h
  · rename_i b hb
    rw [hb]
    cases b with
    | true => exact vA_ok H h
    | false => exact h
  · exact h.elim
end

section
variable {P : Program} {X : Tbl P} {con : Nat → Option Co} {deps : List Nat} {W : List (Nat × List Nat)} {ids : List Nat} {ops : List Oper} {anc : List Nat} {base : Nat}

theorem evA.mono {slot : Nat} {o : Oper} {st : St} {K K' : St → Prop} (h : evA X ids slot o st K) (hk : ∀ s, K s → K' s) : evA X ids slot o st K' := by
  unfold evA at h ⊢
  split at h
  · exact ⟨h.1, h.2.1, hk _ h.2.2⟩
  · split at h
    · split at h
      · split at h
        · exact ⟨h.1, h.2.mono fun r u h => hk _ h⟩
        · exact h.elim
      · exact h.elim
    · exact h.elim
theorem evI.mono {slot : Nat} {o : Oper} {st : St} {K K' : St → Prop} (h : evI X ids ops slot o st K) (hk : ∀ s, K s → K' s) : evI X ids ops slot o st K' := by
  unfold evI at h ⊢
  split at h
  · rename_i b hb
    cases b with
    | true => exact evA.mono h hk
    | false => exact hk _ h
  · exact h.elim

theorem vL_evD (H : Deps P con deps) {K : St → Prop} : ∀ (l : List Oper) (i off : Nat) (st : St), ops.drop i = l → off = offD ops i → vL X con deps W ops anc base i off l st K → evD X W ops anc base (List.range' i l.length) st K
  | [], i, off, st, _, _, h => h
  | o :: l, i, off, st, hd, ho, h => by
    have hi : ops[i]? = some o := by
      have : (ops.drop i)[0]? = some o := by rw [hd]; rfl
      rw [List.getElem?_drop] at this
      simpa using this
    have hd' : ops.drop (i + 1) = l := by rw [← List.drop_drop, hd]; rfl
    have ho' : off + (if isAl o.op then 1 else 0) = offD ops (i + 1) := by
      unfold offD at ho ⊢
      rw [List.take_add_one, hi, countAl_append, ho]
      simp [countAl]
    rw [List.length_cons, List.range'_succ]
    simp only [evD, hi]
    simp only [vL] at h
    subst ho
    exact ⟨h.1, (vW_ok H h.2).mono fun s hs => vL_evD H l (i + 1) _ s hd' ho' hs⟩
end

/-- What is special of a region of so many operations: what its calls write, and what falls still ahead of it. -/
structure Spc where
  size : Nat
  W : List (Nat × List Nat)
  fz : List Nat
  ex : Nat
def spcOf : List Spc → Nat → Spc
  | [], n => ⟨n, [], [], 0⟩
  | s :: l, n => if s.size = n then s else spcOf l n
def drawX {P : Program} (X : Tbl P) (con : Nat → Option Co) (deps : List Nat) (ops : List Oper) (st : St) (K : St → Prop) (s : Spc) : Prop :=
  Hold 0 (chkS ops (ancD ops 0 ops [])) ∧ vL X con deps s.W ops (ancD ops 0 ops []) (st.hp.length - countAl ops) 0 0 ops (fz s.fz ⟨st.tm, st.hp ++ List.replicate s.ex .fresh⟩) K
def drawT {P : Program} (X : Tbl P) (con : Nat → Option Co) (deps : List Nat) (sp : List Spc) : DrawP P := fun ops st K => drawX X con deps ops.toList st K (spcOf sp ops.size)

theorem drawT_ok {P : Program} {X : Tbl P} {con : Nat → Option Co} {deps : List Nat} (hm : P.follows .mixedOrders = true) (H : Deps P con deps) (sp : List Spc) : DrawOk P (drawT X con deps sp) := by
  intro w0 S E0 n id ops st K Q a w h hr hQ
  refine drawD_ok (X := X) hm w0 S E0 n id ops ⟨st.tm, st.hp ++ List.replicate (spcOf sp ops.size).ex .fresh⟩ K Q a w ?_ (hr.fresh _) hQ
  obtain ⟨h1, h2⟩ := h
  refine ⟨h1, (spcOf sp ops.size).W, (spcOf sp ops.size).fz, st.hp.length - countAl ops.toList, ?_⟩
  have := vL_evD H ops.toList 0 0 _ rfl rfl h2
  rwa [List.range_eq_range']

/-! Rules by stages. -/
section
variable {P : Program} {X : Tbl P} {con : Nat → Option Co} {deps : List Nat} {W : List (Nat × List Nat)} {ids : List Nat} {ops : List Oper} {anc : List Nat} {base : Nat}
@[congr] theorem Hold_c {n n' : Nat} {b : Bool} (h : n = n') : Hold n b = Hold n' b := by rw [h]
theorem drawT_eq {sp : List Spc} {l : List Oper} {st : St} {K : St → Prop} : drawT X con deps sp l.toArray st K = drawX X con deps l st K (spcOf sp l.length) := by simp [drawT]
@[congr] theorem drawX_c {l : List Oper} {st st' : St} {K : St → Prop} {s s' : Spc} (h : st = st') (h2 : s = s') : drawX X con deps l st K s = drawX X con deps l st' K s' := by rw [h, h2]
theorem drawX_eq {l : List Oper} {tm : List AV} {hp : List HC} {K : St → Prop} {n ex : Nat} {W : List (Nat × List Nat)} {f : List Nat} : drawX X con deps l ⟨tm, hp⟩ K ⟨n, W, f, ex⟩ = (Hold 0 (chkS l (ancD l 0 l [])) ∧ vL X con deps W l (ancD l 0 l []) (hp.length - countAl l) 0 0 l (fz f ⟨tm, hp ++ List.replicate ex .fresh⟩) K) := rfl
@[congr] theorem vL_c {i off off' base' : Nat} {l : List Oper} {st st' : St} {K : St → Prop} (hb : base = base') (h : off = off') (h2 : st = st') : vL X con deps W ops anc base i off l st K = vL X con deps W ops anc base' i off' l st' K := by rw [hb, h, h2]
theorem vL_nil {i off : Nat} {st : St} {K : St → Prop} : vL X con deps W ops anc base i off [] st K = K st := rfl
theorem vL_none {i off : Nat} {dst : Option Tmp} {op : Op} {ty : TypeId} {pos : String} {af : Array Edge} {l : List Oper} {tm : List AV} {hp : List HC} {K : St → Prop} :
    vL X con deps W ops anc base i off (⟨dst, op, ty, pos, af, none⟩ :: l) ⟨tm, hp⟩ K = (Hold 0 (chkI W ops anc base i ⟨dst, op, ty, pos, af, none⟩ tm) ∧ vA X con deps (Wof W i) (base + off) ⟨dst, op, ty, pos, af, none⟩ tm hp (fun s => vL X con deps W ops anc base (i + 1) (off + if isAl op then 1 else 0) l s K) (isCallV op)) := rfl
theorem vL_some {i off : Nat} {dst : Option Tmp} {op : Op} {ty : TypeId} {pos : String} {af : Array Edge} {g : Nat × Bool} {l : List Oper} {tm : List AV} {hp : List HC} {K : St → Prop} :
    vL X con deps W ops anc base i off (⟨dst, op, ty, pos, af, some g⟩ :: l) ⟨tm, hp⟩ K = (Hold 0 (chkI W ops anc base i ⟨dst, op, ty, pos, af, some g⟩ tm) ∧ vW X con deps (Wof W i) (base + off) ⟨dst, op, ty, pos, af, some g⟩ tm hp (fun s => vL X con deps W ops anc base (i + 1) (off + if isAl op then 1 else 0) l s K) (wantD ops ⟨dst, op, ty, pos, af, some g⟩ tm)) := rfl
@[congr] theorem vW_c {slot slot' : Nat} {o : Oper} {tm : List AV} {hp : List HC} {K : St → Prop} {ids' : List Nat} {q q' : Option Bool} (hi : ids = ids') (hs : slot = slot') (h : q = q') : vW X con deps ids slot o tm hp K q = vW X con deps ids' slot' o tm hp K q' := by rw [hi, hs, h]
theorem vW_true {slot : Nat} {o : Oper} {tm : List AV} {hp : List HC} {K : St → Prop} : vW X con deps ids slot o tm hp K (some true) = vA X con deps ids slot o tm hp K (isCallV o.op) := rfl
theorem vW_false {slot : Nat} {o : Oper} {tm : List AV} {hp : List HC} {K : St → Prop} : vW X con deps ids slot o tm hp K (some false) = K ⟨putA tm o.dst (.tup []), hp⟩ := rfl
theorem vW_some {slot : Nat} {o : Oper} {tm : List AV} {hp : List HC} {K : St → Prop} {b : Bool} : vW X con deps ids slot o tm hp K (some b) = (match b with
    | true => vA X con deps ids slot o tm hp K (isCallV o.op)
    | false => K ⟨putA tm o.dst (.tup []), hp⟩) := rfl
@[congr] theorem vA_c {slot slot' : Nat} {o : Oper} {tm : List AV} {hp : List HC} {K : St → Prop} {ids' : List Nat} {q q' : Bool} (hi : ids = ids') (hs : slot = slot') (h : q = q') : vA X con deps ids slot o tm hp K q = vA X con deps ids' slot' o tm hp K q' := by rw [hi, hs, h]
theorem vA_false {slot : Nat} {o : Oper} {tm : List AV} {hp : List HC} {K : St → Prop} : vA X con deps ids slot o tm hp K false = vF slot o tm hp K (fOp X slot o tm hp) := rfl
theorem vA_call {dst : Option Tmp} {f : Operand} {ar : Array Operand} {at' : Array TypeId} {ty : TypeId} {pos : String} {af : Array Edge} {g : Option (Nat × Bool)} {slot : Nat} {tm : List AV} {hp : List HC} {K : St → Prop} :
    vA X con deps ids slot ⟨dst, .call ⟨.value f, ar, at'⟩, ty, pos, af, g⟩ tm hp K true = vC X con deps ids ⟨.value f, ar, at'⟩ ⟨dst, .call ⟨.value f, ar, at'⟩, ty, pos, af, g⟩ tm hp K (opd X 0 tm f) := rfl
@[congr] theorem vF_c {slot : Nat} {o : Oper} {tm : List AV} {hp : List HC} {K : St → Prop} {q q' : Option (Prop × AV × List HC)} (h : q = q') : vF slot o tm hp K q = vF slot o tm hp K q' := by rw [h]
theorem vF_some {slot : Nat} {o : Oper} {tm : List AV} {hp hp' : List HC} {K : St → Prop} {p : Prop} {r : AV} : vF slot o tm hp K (some (p, r, hp')) = (p ∧ (isAl o.op = true → hp[slot]? = some .fresh) ∧ K ⟨putA tm o.dst r, hp'⟩) := rfl
@[congr] theorem vC_c {c : Call} {o : Oper} {tm : List AV} {hp : List HC} {K : St → Prop} {q q' : AV} (h : q = q') : vC X con deps ids c o tm hp K q = vC X con deps ids c o tm hp K q' := by rw [h]
theorem vC_fn {c : Call} {o : Oper} {tm : List AV} {hp : List HC} {K : St → Prop} {k : Nat} {caps : List SV} : vC X con deps ids c o tm hp K (.v (.fn k caps)) = (c.args.size = c.argTypes.size ∧ uD P con k (argsD X c tm caps) hp (fun r u => K ⟨putA tm o.dst r, setAll ids u hp⟩) ids (deps.contains k)) := rfl
-- calls in a drawn region
@[congr] theorem uD_c {k : Nat} {args args' : List CV} {hp : List HC} {Φ : AV → List HC → Prop} {b b' : Bool} (ha : args = args') (h : b = b') : uD P con k args hp Φ ids b = uD P con k args' hp Φ ids b' := by rw [ha, h]
theorem uD_true {k : Nat} {args : List CV} {hp : List HC} {Φ : AV → List HC → Prop} : uD P con k args hp Φ ids true = uG P k args hp Φ ids (con k) := rfl
theorem uD_false {k : Nat} {args : List CV} {hp : List HC} {Φ : AV → List HC → Prop} : uD P con k args hp Φ ids false = callW P k args hp ids Φ := rfl
@[congr] theorem uG_c {k : Nat} {args : List CV} {hp : List HC} {Φ : AV → List HC → Prop} {q q' : Option Co} (h : q = q') : uG P k args hp Φ ids q = uG P k args hp Φ ids q' := by rw [h]
theorem uG_val {k : Nat} {args : List CV} {hp : List HC} {Φ : AV → List HC → Prop} {c : Con} : uG P k args hp Φ [] (some (.val c)) = uC c args hp Φ (args.all CV.cl) := rfl
theorem uG_lend {k a : Nat} {l : List Nat} {args : List CV} {hp : List HC} {Φ : AV → List HC → Prop} {c : LCon} : uG P k args hp Φ (a :: l) (some (.lend c)) = uL c args hp Φ (a :: l) := rfl
theorem uG_fresh {k a : Nat} {l : List Nat} {args : List CV} {hp : List HC} {Φ : AV → List HC → Prop} {c : Con} : uG P k args hp Φ (a :: l) (some (.val c)) = uF c args hp Φ (a :: l) := rfl
theorem uF_eq {ts : List Ty} {f : Tup ts → Prop × AV × List HC} {args : List CV} {hp : List HC} {Φ : AV → List HC → Prop} : uF ⟨ts, f⟩ args hp Φ ids = ((noDup ids && ids.all (isFreshAt hp) && args.all CV.cl) = true ∧ uX f ids Φ (typed ts args)) := rfl
@[congr] theorem uX_c {α : Type} {f : α → Prop × AV × List HC} {Φ : AV → List HC → Prop} {q q' : Option α} (h : q = q') : uX f ids Φ q = uX f ids Φ q' := by rw [h]
theorem uX_some {α : Type} {f : α → Prop × AV × List HC} {Φ : AV → List HC → Prop} {x : α} : uX f ids Φ (some x) = uY ids Φ (f x) := rfl
@[congr] theorem uY_c {Φ : AV → List HC → Prop} {q q' : Prop × AV × List HC} (h : q = q') : uY ids Φ q = uY ids Φ q' := by rw [h]
theorem uY_eq {Φ : AV → List HC → Prop} {p : Prop} {v : AV} {hs : List HC} : uY ids Φ (p, v, hs) = (p ∧ (hs.length == ids.length) = true ∧ Φ (renAV (Ev.pos ids) v) (hs.map (renHC (Ev.pos ids)))) := rfl
@[congr] theorem uC_c {c : Con} {args : List CV} {hp : List HC} {Φ : AV → List HC → Prop} {q q' : Bool} (h : q = q') : uC c args hp Φ q = uC c args hp Φ q' := by rw [h]
theorem uC_true {ts : List Ty} {f : Tup ts → Prop × AV × List HC} {args : List CV} {hp : List HC} {Φ : AV → List HC → Prop} : uC ⟨ts, f⟩ args hp Φ true = uV f true Φ (typed ts args) := rfl
theorem uC_false {c : Con} {args : List CV} {hp : List HC} {Φ : AV → List HC → Prop} : uC c args hp Φ false = uS c Φ (snapArgsS hp args) := rfl
@[congr] theorem uS_c {c : Con} {Φ : AV → List HC → Prop} {q q' : Option (List CV)} (h : q = q') : uS c Φ q = uS c Φ q' := by rw [h]
theorem uS_some {ts : List Ty} {f : Tup ts → Prop × AV × List HC} {Φ : AV → List HC → Prop} {args : List CV} : uS ⟨ts, f⟩ Φ (some args) = uV f false Φ (typed ts args) := rfl
@[congr] theorem uV_c {α : Type} {f : α → Prop × AV × List HC} {cl : Bool} {Φ : AV → List HC → Prop} {q q' : Option α} (h : q = q') : uV f cl Φ q = uV f cl Φ q' := by rw [h]
theorem uV_some {α : Type} {f : α → Prop × AV × List HC} {cl : Bool} {Φ : AV → List HC → Prop} {x : α} : uV f cl Φ (some x) = uK cl Φ (f x) := rfl
@[congr] theorem uK_c {cl : Bool} {Φ : AV → List HC → Prop} {q q' : Prop × AV × List HC} (h : q = q') : uK cl Φ q = uK cl Φ q' := by rw [h]
theorem uK_eq {cl : Bool} {Φ : AV → List HC → Prop} {p : Prop} {v : AV} : uK cl Φ (p, v, []) = (p ∧ (v.cl && (cl || v.flat)) = true ∧ Φ v []) := rfl
theorem uL_eq {run : List CV → List HC → Option (Prop × AV × List HC)} {args : List CV} {hp : List HC} {Φ : AV → List HC → Prop} : uL ⟨run⟩ args hp Φ ids = ((noDup ids && ids.all (isLiveAt hp) && !(ids.all (isFreshAt hp))) = true ∧ uR ids hp Φ (run (args.map (renCV (idx ids))) (lendHp ids hp))) := rfl
@[congr] theorem uR_c {hp : List HC} {Φ : AV → List HC → Prop} {q q' : Option (Prop × AV × List HC)} (h : q = q') : uR ids hp Φ q = uR ids hp Φ q' := by rw [h]
theorem uR_some {hp : List HC} {Φ : AV → List HC → Prop} {p : Prop} {v : AV} {h' : List HC} : uR ids hp Φ (some (p, v, h')) = (p ∧ (v.cl && h'.length == ids.length) = true ∧ Φ v (h'.map (renHC (sig ids hp.length)))) := rfl
-- calls in order
theorem tabM_eq {k : Nat} {args : List CV} {hp : List HC} {K : AV → List HC → Prop} : tabM P con deps k args hp K = tD P con k args hp K (deps.contains k) := rfl
@[congr] theorem tabM_c {k : Nat} {args args' : List CV} {hp hp' : List HC} {K : AV → List HC → Prop} (ha : args = args') (hh : hp = hp') : tabM P con deps k args hp K = tabM P con deps k args' hp' K := by rw [ha, hh]
@[congr] theorem tD_c {k : Nat} {args : List CV} {hp : List HC} {K : AV → List HC → Prop} {b b' : Bool} (h : b = b') : tD P con k args hp K b = tD P con k args hp K b' := by rw [h]
theorem tD_true {k : Nat} {args : List CV} {hp : List HC} {K : AV → List HC → Prop} : tD P con k args hp K true = tG P k args hp K (con k) := rfl
theorem tD_false {k : Nat} {args : List CV} {hp : List HC} {K : AV → List HC → Prop} : tD P con k args hp K false = ACall P k args hp K := rfl
@[congr] theorem ACall_c {k : Nat} {args args' : List CV} {hp hp' : List HC} {K : AV → List HC → Prop} (h : args = args') (h2 : hp = hp') : ACall P k args hp K = ACall P k args' hp' K := by rw [h, h2]
@[congr] theorem callW_c {k : Nat} {args args' : List CV} {hp hp' : List HC} {Φ : AV → List HC → Prop} (h : args = args') (h2 : hp = hp') : callW P k args hp ids Φ = callW P k args' hp' ids Φ := by rw [h, h2]
@[congr] theorem tG_c {k : Nat} {args : List CV} {hp : List HC} {K : AV → List HC → Prop} {q q' : Option Co} (h : q = q') : tG P k args hp K q = tG P k args hp K q' := by rw [h]
theorem tG_val {k : Nat} {args : List CV} {hp : List HC} {K : AV → List HC → Prop} {c : Con} : tG P k args hp K (some (.val c)) = tC c args hp K (args.all CV.cl) := rfl
theorem tG_lend {k : Nat} {args : List CV} {hp : List HC} {K : AV → List HC → Prop} {c : LCon} : tG P k args hp K (some (.lend c)) = tL c args hp K (reach hp args) := rfl
@[congr] theorem tC_c {c : Con} {args : List CV} {hp : List HC} {K : AV → List HC → Prop} {q q' : Bool} (h : q = q') : tC c args hp K q = tC c args hp K q' := by rw [h]
theorem tC_true {ts : List Ty} {f : Tup ts → Prop × AV × List HC} {args : List CV} {hp : List HC} {K : AV → List HC → Prop} : tC ⟨ts, f⟩ args hp K true = tV f true hp K (typed ts args) := rfl
theorem tC_false {c : Con} {args : List CV} {hp : List HC} {K : AV → List HC → Prop} : tC c args hp K false = tS c hp K (snapArgs hp args) := rfl
@[congr] theorem tS_c {c : Con} {hp : List HC} {K : AV → List HC → Prop} {q q' : Option (List CV)} (h : q = q') : tS c hp K q = tS c hp K q' := by rw [h]
theorem tS_some {ts : List Ty} {f : Tup ts → Prop × AV × List HC} {hp : List HC} {K : AV → List HC → Prop} {args : List CV} : tS ⟨ts, f⟩ hp K (some args) = tV f false hp K (typed ts args) := rfl
@[congr] theorem tV_c {α : Type} {f : α → Prop × AV × List HC} {cl : Bool} {hp : List HC} {K : AV → List HC → Prop} {q q' : Option α} (h : q = q') : tV f cl hp K q = tV f cl hp K q' := by rw [h]
theorem tV_some {α : Type} {f : α → Prop × AV × List HC} {cl : Bool} {hp : List HC} {K : AV → List HC → Prop} {x : α} : tV f cl hp K (some x) = tK cl hp K (f x) := rfl
@[congr] theorem tK_c {cl : Bool} {hp : List HC} {K : AV → List HC → Prop} {q q' : Prop × AV × List HC} (h : q = q') : tK cl hp K q = tK cl hp K q' := by rw [h]
theorem tK_eq {cl : Bool} {hp : List HC} {K : AV → List HC → Prop} {p : Prop} {v : AV} {hs : List HC} : tK cl hp K (p, v, hs) = (p ∧ (cl || (v.flat && hs.all HC.flat)) = true ∧ K (renAV (up hp.length) v) (hp ++ hs.map (renHC (up hp.length)))) := rfl
@[congr] theorem tL_c {c : LCon} {args : List CV} {hp : List HC} {K : AV → List HC → Prop} {ids ids' : List Nat} (h : ids = ids') : tL c args hp K ids = tL c args hp K ids' := by rw [h]
theorem tL_eq {run : List CV → List HC → Option (Prop × AV × List HC)} {args : List CV} {hp : List HC} {K : AV → List HC → Prop} {ids : List Nat} : tL ⟨run⟩ args hp K ids = ((noDup ids && ids.all (isLiveAt hp)) = true ∧ tR ids hp K (run (args.map (renCV (idx ids))) (lendHp ids hp))) := rfl
@[congr] theorem tR_c {hp : List HC} {K : AV → List HC → Prop} {q q' : Option (Prop × AV × List HC)} (h : q = q') : tR ids hp K q = tR ids hp K q' := by rw [h]
theorem tR_some {hp : List HC} {K : AV → List HC → Prop} {p : Prop} {v : AV} {h' : List HC} : tR ids hp K (some (p, v, h')) = (p ∧ K (renAV (sig ids hp.length) v) (backHp ids hp h')) := rfl
theorem and_hold {m : Nat} {b : Bool} {q : Prop} (h : b = true) (hq : q) : Hold m b ∧ q := ⟨h, hq⟩
theorem and_of {p q : Prop} (h : p) (hq : p → q) : p ∧ q := ⟨h, hq h⟩
end
attribute [irreducible] Hold
end Go.Proofs.Ytgkjgpiggjjmpaa.Ev
