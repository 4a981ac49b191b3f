/- Lemmas for the claim: A function's call. (no condition.) -/
import Derived.Test.YtgkjgpiggjjmpaaEv17
/-! A function's call. -/
namespace Go.Proofs.Ytgkjgpiggjjmpaa.Ev
open Go
set_option linter.unusedVariables false

def resVar {P : Program} (X : Tbl P) (tm : List AV) (hp : List HC) : ResultVar → Option CV
  | .tmp t => match tm.getD t (.v (.one .u)) with
    | .v a => some a
    | .tup _ => none
  | .cell a t => loadF X t hp (tm.getD a (.v (.one .u))).cv.sv

def resVars {P : Program} (X : Tbl P) (tm : List AV) (hp : List HC) : List ResultVar → Option (List CV)
  | [] => some []
  | r :: rs => match resVar X tm hp r, resVars X tm hp rs with
    | some a, some l => some (a :: l)
    | _, _ => none

/-- What is handed back. -/
def resAV : List CV → AV
  | [a] => .v a
  | l => .tup l

/-- How long what is held can be. -/
def Ty.bnd : (t : Ty) → t.D → Prop
  | .sl e, xs => (xs : List e.D).length ≤ 140737488355328 ∧ ∀ x ∈ (xs : List e.D), e.bnd x
  | .pair a b, x => a.bnd x.1 ∧ b.bnd x.2
  | .arr n e, xs => (xs : List e.D).length = n ∧ ∀ x ∈ (xs : List e.D), e.bnd x
  | _, _ => True

theorem segs_bnd {α : Type} {R : α → List Value → Prop} {Q : α → Prop} (h : ∀ x c, R x c → Q x) : ∀ {xs : List α} {cs : List Value}, Segs R xs cs → ∀ x ∈ xs, Q x
  | a :: xs, _, ⟨c1, c2, e, h1, h2⟩, x, hx => by
    rcases List.mem_cons.1 hx with rfl | hx
    · exact h _ _ h1
    · exact segs_bnd h h2 x hx

theorem KC.bnd {w : World} {F : Nat → Prop} : ∀ {t : Ty} {x : t.D} {cs : List Value}, KC w F t x cs → t.bnd x
  | .int _, _, _, _ => trivial
  | .bool, _, _, _ => trivial
  | .str, _, _, _ => trivial
  | .unit, _, _, _ => trivial
  | .pair a b, _, _, ⟨c1, c2, e, h1, h2⟩ => ⟨KC.bnd h1, KC.bnd h2⟩
  | .arr n e, _, _, ⟨hn, hs⟩ => ⟨hn, segs_bnd (fun _ _ h => KC.bnd h) hs⟩
  | .sl e, xs, _, ⟨A, c, e1, hc, h⟩ => ⟨hc.2, fun x hx => by
    obtain ⟨b, o, ea, hb, h⟩ := h (List.ne_nil_of_mem hx)
    obtain ⟨i, hi⟩ := List.getElem?_of_mem hx
    obtain ⟨ec, h1, h2⟩ := h i x hi
    exact KC.bnd h1⟩

def SV.bnd : SV → Prop
  | .c t x => t.bnd x
  | .cp t x => t.bnd x
  | _ => True
def svsBnd : List SV → Prop
  | [] => True
  | a :: l => a.bnd ∧ svsBnd l
def CV.bnd : CV → Prop
  | .one a => a.bnd
  | .agg l => svsBnd l
  | .fn _ caps => svsBnd caps
def cvsBnd : List CV → Prop
  | [] => True
  | a :: l => a.bnd ∧ cvsBnd l

theorem SVR.bnd {E : Env} {a : SV} {v : Value} (h : SVR E a v) : a.bnd := by
  cases a with
  | c t x => obtain ⟨cs, hk, _⟩ := h; exact hk.bnd
  | cp t x => obtain ⟨b, o, cs, e, hF, hk, hc⟩ := h; exact hk.bnd
  | _ => trivial
theorem SVC.bnd {E : Env} {a : SV} {cs : List Value} (h : SVC E a cs) : a.bnd := by
  cases a with
  | c t x => exact KC.bnd h
  | _ => obtain ⟨v, _, h⟩ := h; exact h.bnd
theorem svs_bnd {R : SV → List Value → Prop} (h : ∀ x c, R x c → x.bnd) : ∀ {xs : List SV} {cs : List Value}, Segs R xs cs → svsBnd xs
  | [], _, _ => trivial
  | a :: xs, _, ⟨c1, c2, e, h1, h2⟩ => ⟨h _ _ h1, svs_bnd h h2⟩
theorem CVR.bnd {E : Env} {a : CV} {v : Value} (h : CVR E a v) : a.bnd := by
  cases a with
  | one a => exact SVR.bnd h
  | agg l => obtain ⟨cs, hs, _⟩ := h; exact svs_bnd (fun _ _ h => h.bnd) hs
  | fn f caps => obtain ⟨vs, _, hs⟩ := h; exact svs_bnd (fun _ _ ⟨_, _, h⟩ => h.bnd) hs
theorem cvs_bnd {E : Env} : ∀ {xs : List CV} {vs : List Value}, Segs (fun a cs => ∃ v, cs = [v] ∧ CVR E a v) xs vs → cvsBnd xs
  | [], _, _ => trivial
  | a :: xs, _, ⟨c1, c2, e, ⟨v, _, h1⟩, h2⟩ => ⟨h1.bnd, cvs_bnd h2⟩

def evF {P : Program} (X : Tbl P) (M : Mode P) (D : DrawP P) (fn : Func) (args : List CV) (hp : List HC) (K : AV → List HC → Prop) : Prop :=
  match fn.body with
  | some c => cvsBnd args → evC X M D hp.length c ⟨args.map AV.v ++ List.replicate (fn.ntmps - args.length) (.tup []), hp⟩ fun e s => match e with
    | .exit _ => False
    | _ => match resVars X s.tm s.hp fn.results.toList with
      | some l => ∃ r' h', Weak hp.length ⟨[resAV l], s.hp⟩ ⟨[r'], h'⟩ ∧ K r' h'
      | none => False
  | none => False

section
variable {P : Program} {X : Tbl P} {M : Mode P} {D : DrawP P} {w0 : World} {S : Who} {E0 : Env} {n : Nat}

theorem resVars_ok {E : Env} {tm : List AV} {a : Act} (hR : HR w0 S E) (hT : TR E tm a.tmps) : ∀ (rs : List ResultVar) (l : List CV), resVars X tm E.hp rs = some l →
    ∃ vs : List Value, (List.mapM (m := Sem) (fun (r : ResultVar) => (match r with
      | .tmp t => Pure.pure (a.tmps.getD t undef)
      | .cell a' t => do loadVar t (← asAddr (a.tmps.getD a' undef)) : Sem Value)) rs).run P E.w = .ok vs E.w ∧ Segs (fun a cs => ∃ v, cs = [v] ∧ CVR E a v) l vs
  | [], l, h => by
    simp only [resVars, Option.some.injEq] at h
    subst h
    exact ⟨[], by simp, rfl⟩
  | r :: rs, l, h => by
    simp only [resVars] at h
    split at h
    · rename_i c l' hc hl
      simp only [Option.some.injEq] at h
      subst h
      obtain ⟨vs, h1, h2⟩ := resVars_ok hR hT rs l' hl
      cases r with
      | tmp t =>
        have h3 : CVR E c (a.tmps.getD t undef) := by
          have := hT.2 t
          simp only [resVar] at hc
          split at hc
          · rename_i a' e
            simp only [Option.some.injEq] at hc
            subst hc
            rw [e] at this
            exact this
          · cases hc
        refine ⟨a.tmps.getD t undef :: vs, ?_, [_], vs, rfl, ⟨_, rfl, h3⟩, h2⟩
        simp only [List.mapM_cons, Sem.run_bind, Sem.run_pure, Result.andThen_ok, h1]
      | cell a' t =>
        simp only [resVar] at hc
        obtain ⟨z, h3, h4⟩ := loadF_ok hR (sv_ok (cv_ok (hT.2 a'))) hc
        have h5 : (do loadVar t (← asAddr (a.tmps.getD a' undef)) : Sem Value).run P E.w = .ok z E.w := by
          revert h3
          generalize a.tmps.getD a' undef = v
          intro h3
          cases v with
          | pointer p => cases p with
            | none => simp [Instr.loadAt, Instr.sureAddr] at h3
            | some p => exact h3
          | _ => simp [Instr.loadAt, Instr.sureAddr] at h3
        refine ⟨z :: vs, ?_, [z], vs, rfl, ⟨z, rfl, h4⟩, h2⟩
        simp only [List.mapM_cons, Sem.run_bind, Sem.run_pure] at h5 ⊢
        rw [h5]
        simp only [Result.andThen_ok, h1]
    · cases h

theorem segs1_get {α : Type} {R : α → Value → Prop} : ∀ {l : List α} {vs : List Value}, Segs (fun a cs => ∃ v, cs = [v] ∧ R a v) l vs → ∀ (i : Nat) (a : α), l[i]? = some a → ∃ v, vs[i]? = some v ∧ R a v
  | [], _, _, i, a, h => by simp at h
  | x :: l, _, ⟨c1, c2, e, ⟨v, e1, hv⟩, h2⟩, 0, a, h => by
    simp only [List.getElem?_cons_zero, Option.some.injEq] at h
    subst h e1 e
    exact ⟨v, rfl, hv⟩
  | x :: l, _, ⟨c1, c2, e, ⟨v, e1, hv⟩, h2⟩, i + 1, a, h => by
    subst e1 e
    simpa using segs1_get h2 i a (by simpa using h)

theorem acall_of_ev (hM : ModeOk P M) (hD : DrawOk P D) {k : Nat} {fn : Func} (hf : P.funcs[k]? = some fn) (hname : fn.name ≠ "runtime.NumGoroutine") {args : List CV} {hp : List HC} {K : AV → List HC → Prop}
    (h : evF X M D fn args hp K) : ACall P k args hp K := by
  unfold evF at h
  split at h
  · rename_i c hc
    refine ⟨⟨fn, hf, by rw [hc]; rfl, hname⟩, fun w0 S E vs hR hE hargs => ?_⟩
    have hlen : vs.length = args.length := by
      have := hargs.length (s := 1) (fun x c ⟨v, e, _⟩ => by rw [e]; rfl)
      omega
    refine calls_of_wp hf hc (evC_ok (w0 := w0) (S := S) (E0 := E) hM hD c _ _ _ _ E.w (h (cvs_bnd hargs)) ⟨E, rfl, hE, hR, ?_, LeN.refl _ _, rfl⟩ ?_)
    · constructor
      · simp [hlen]
      · intro t
        rcases Nat.lt_or_ge t args.length with ht | ht
        · obtain ⟨v, h1, h2⟩ := segs1_get hargs t args[t] (List.getElem?_eq_getElem ht)
          have e1 : (args.map AV.v ++ List.replicate (fn.ntmps - args.length) (AV.tup [])).getD t (.v (.one .u)) = .v args[t] := by
            rw [List.getD_eq_getElem?_getD, List.getElem?_append_left (by simpa using ht), List.getElem?_map, List.getElem?_eq_getElem ht]; rfl
          have e2 : (vs.toArray ++ Array.replicate (fn.ntmps - vs.toArray.size) undef).getD t undef = v := by
            rw [Array.getD_eq_getD_getElem?, Array.getElem?_append_left (by simp; omega)]
            simp [h1]
          show AVR E _ ((vs.toArray ++ Array.replicate (fn.ntmps - vs.toArray.size) undef).getD t undef)
          rw [e1, e2]
          exact h2
        · have e2 : (vs.toArray ++ Array.replicate (fn.ntmps - vs.toArray.size) undef).getD t undef = undef := by
            rw [Array.getD_eq_getD_getElem?, Array.getElem?_append_right (by simp; omega), Array.getElem?_replicate]
            split <;> rfl
          show AVR E _ ((vs.toArray ++ Array.replicate (fn.ntmps - vs.toArray.size) undef).getD t undef)
          rw [e2, List.getD_eq_getElem?_getD, List.getElem?_append_right (by simpa using ht), List.getElem?_replicate]
          split
          · exact ⟨[], rfl, rfl⟩
          · trivial
    · intro e a w hl
      have fin : ∀ st, Rel w0 S E hp.length st a w → (match resVars X st.tm st.hp fn.results.toList with
          | some l => ∃ r' h', Weak hp.length ⟨[resAV l], st.hp⟩ ⟨[r'], h'⟩ ∧ K r' h'
          | none => False) → a.defers = [] ∧ ∃ v, (results fn a.tmps).run P w = .ok v w ∧ ∃ av E' v', Ending.returned v = .returned v' ∧ K av E'.hp ∧ E'.w = w ∧ Le E E' ∧ HR w0 S E' ∧ AVR E' av v' := by
        intro st hr hk
        obtain ⟨E1, rfl, e2, e3, e4, e5, e6⟩ := hr
        refine ⟨e6, ?_⟩
        split at hk
        · rename_i l hl
          obtain ⟨r', h', hw, hk⟩ := hk
          rw [← e2] at hl
          obtain ⟨vs', h1, h2⟩ := resVars_ok e3 e4 _ _ hl
          have hv : AVR E1 (resAV l) (if h : vs'.toArray.size = 1 then vs'.toArray[0] else .tuple vs'.toArray) := by
            match l, h2 with
            | [], h2 => cases h2; exact ⟨[], rfl, rfl⟩
            | [x], h2 =>
              obtain ⟨c1, c2, e, ⟨v, hv1, hv2⟩, h3⟩ := h2
              cases h3
              subst hv1
              subst e
              exact hv2
            | x :: y :: l, h2 =>
              have hh := h2
              obtain ⟨c1, c2, e, ⟨v, hv1, hv2⟩, c3, c4, e', ⟨v', hv3, hv4⟩, h3⟩ := h2
              subst hv1 hv3 e' e
              exact ⟨_, by simp, hh⟩
          obtain ⟨E2, f1, f2, f3, f4, f5⟩ := hw w0 S E E1 #[if h : vs'.toArray.size = 1 then vs'.toArray[0] else .tuple vs'.toArray] e3 e2 ⟨rfl, fun t => by
              cases t with
              | zero => exact hv
              | succ t => trivial⟩ e5
          refine ⟨(if h : vs'.toArray.size = 1 then vs'.toArray[0] else .tuple vs'.toArray), ?_, r', E2, (if h : vs'.toArray.size = 1 then vs'.toArray[0] else .tuple vs'.toArray), rfl, by rw [f2]; exact hk, f1, f5.le (fun id hi => ?_) (fun id hn => ?_), f3, f4.2 0⟩
          · have h1' : (List.mapM (m := Sem) (fun (r : ResultVar) => (match r with
              | .tmp t => Pure.pure (a.tmps.getD t undef)
              | .cell a' t => do loadVar t (← asAddr (a.tmps.getD a' undef)) : Sem Value)) fn.results.toList).run P E1.w = .ok vs' E1.w := h1
            have hmap : (Array.mapM (m := Sem) (fun (r : ResultVar) => (match r with
              | .tmp t => Pure.pure (a.tmps.getD t undef)
              | .cell a' t => do loadVar t (← asAddr (a.tmps.getD a' undef)) : Sem Value)) fn.results).run P E1.w = .ok vs'.toArray E1.w := by
              rw [Array.mapM_eq_mapM_toList, ← bind_pure_comp, Sem.run_bind, h1']
              rfl
            unfold results
            rw [Sem.run_bind]
            exact (congrArg (fun r => Result.andThen r (fun (a : Array Value) w' => Sem.run P (Pure.pure (if h : a.size = 1 then a[0] else Value.tuple a)) w')) hmap).trans rfl
          · rw [List.getElem?_eq_none (by rw [hE]; exact hi)]; trivial
          · rcases Nat.lt_or_ge id hp.length with hi | hi
            · exact f5.old id hi hn
            · rw [List.getElem?_eq_none (by rw [hE]; exact hi)]; trivial
        · exact hk.elim
      cases e with
      | normal => obtain ⟨st, hk, hr⟩ := hl; exact fin st hr hk
      | ret => obtain ⟨st, hk, hr⟩ := hl; exact fin st hr hk
      | exit id => obtain ⟨st, hk, hr⟩ := hl; exact hk.elim
      | _ => exact hl.elim
  · exact h.elim
end
end Go.Proofs.Ytgkjgpiggjjmpaa.Ev
