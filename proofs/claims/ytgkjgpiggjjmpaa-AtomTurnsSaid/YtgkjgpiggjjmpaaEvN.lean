/- Lemmas for the claim: States in their plainest form; what is handed back; loops. (no condition.) -/
import Derived.Test.YtgkjgpiggjjmpaaEvM
/-! States in their plainest form; what is handed back; loops. -/
namespace Go.Proofs.Ytgkjgpiggjjmpaa.Ev
open Go
set_option linter.unusedVariables false

section
variable {P : Program} {w0 : World} {S : Who} {E : Env} {n : Nat}

/-! What is handed back, as values. -/
theorem still_ok (h : HR w0 S E) : HR w0 S (still E) := by
  refine ⟨fun id r hx => by simp [still] at hx, fun i j ri rj li lj hx => by simp [still] at hx, fun i r l hx => by simp [still] at hx, fun i r l hx => by simp [still] at hx, fun i r l hx => by simp [still] at hx,
    fun b hb => ?_, fun b hb hlt => ?_, h.old, h.size, h.os, h.tape, h.output⟩
  · rcases hb with hb | ⟨id, r, l, h1, h2, rfl⟩
    · exact h.Fin b hb
    · exact h.inside id r l h1 h2
  · rcases hb with hb | ⟨id, r, l, h1, h2, rfl⟩
    · exact h.Fold b hb hlt
    · rcases h.may id r l h1 h2 with h3 | h3
      · omega
      · exact S.wg _ h3

theorem resAV_ok {E : Env} {l : List CV} {v : Value} (h : AVR E (resAV l) v) : ∃ vs, Segs (fun a cs => ∃ v, cs = [v] ∧ CVR E a v) l vs ∧ ∀ (E' : Env) (l' : List CV), l'.length = l.length → Segs (fun a cs => ∃ v, cs = [v] ∧ CVR E' a v) l' vs → AVR E' (resAV l') v := by
  match l, h with
  | [], h => obtain ⟨vs, e, hs⟩ := h; exact ⟨vs, hs, fun E' l' hl hs' => by cases l' with | nil => exact ⟨vs, e, hs'⟩ | cons => simp at hl⟩
  | [a], h => exact ⟨[v], ⟨[v], [], rfl, ⟨v, rfl, h⟩, rfl⟩, fun E' l' hl hs' => by
      match l', hl with
      | [b], _ =>
        obtain ⟨c1, c2, e, ⟨v', e1, h1⟩, h2⟩ := hs'
        subst e1
        cases h2
        simp only [List.append_nil, List.cons.injEq, and_true] at e
        subst e
        exact h1⟩
  | a :: b :: l, h =>
    obtain ⟨vs, e, hs⟩ := h
    exact ⟨vs, hs, fun E' l' hl hs' => by
      match l', hl with
      | a' :: b' :: l', _ => exact ⟨vs, e, hs'⟩⟩

theorem snapArgs_len {hp : List HC} : ∀ {l m : List CV}, snapArgs hp l = some m → m.length = l.length
  | [], m, h => by simp only [snapArgs, Option.some.injEq] at h; subst h; rfl
  | a :: l, m, h => by
    simp only [snapArgs] at h
    split at h
    · rename_i b m' _ hm
      simp only [Option.some.injEq] at h
      subst h
      simp [snapArgs_len hm]
    · cases h

theorem Weak.snap {hp : List HC} {l l' : List CV} (hs : snapArgs hp l = some l') : Weak 0 ⟨[resAV l], hp⟩ ⟨[resAV l'], []⟩ := by
  intro w0 S E0 E tmps h1 h2 h3 h4
  subst h2
  obtain ⟨vs, g1, g2⟩ := resAV_ok (h3.2 0)
  refine ⟨still E, rfl, rfl, still_ok h1, ⟨h3.1, fun t => ?_⟩, ⟨fun b hb => .inl (h4.F b hb), h4.Fw, fun id hi => absurd hi (Nat.not_lt_zero _), fun id t xs ver hi => absurd hi (Nat.not_lt_zero _), fun id ls hi => absurd hi (Nat.not_lt_zero _)⟩⟩
  cases t with
  | zero => exact g2 (still E) l' (snapArgs_len hs) (snapArgs_ok h1 hs g1)
  | succ t => trivial

theorem cvs_len : ∀ (ts : List Ty) (x : Tup ts), (cvs ts x).length = ts.length
  | [], _ => rfl
  | t :: ts, x => by simp [cvs, cvs_len ts x.2]
theorem typed_len : ∀ {ts : List Ty} {l : List CV} {x : Tup ts}, typed ts l = some x → l.length = ts.length
  | [], [], _, _ => rfl
  | t :: ts, a :: l, x, h => by
    simp only [typed] at h
    split at h
    · split at h
      · rename_i hz; simp [typed_len hz]
      · cases h
    · cases h
  | [], a :: l, x, h => by simp [typed] at h
  | t :: ts, [], x, h => by simp [typed] at h
theorem Weak.typed {hp : List HC} {l : List CV} {ts : List Ty} {x : Tup ts} (hx : typed ts l = some x) : Weak n ⟨[resAV l], hp⟩ ⟨[resAV (cvs ts x)], hp⟩ := by
  intro w0 S E0 E tmps h1 h2 h3 h4
  obtain ⟨vs, g1, g2⟩ := resAV_ok (h3.2 0)
  refine ⟨E, rfl, h2, h1, ⟨h3.1, fun t => ?_⟩, h4⟩
  cases t with
  | zero => exact g2 E _ (by rw [cvs_len, typed_len hx]) (typed_ok hx g1)
  | succ t => trivial
end

def finX {α : Type} (Φ : α → Prop) : Option α → Prop
  | some x => Φ x
  | none => False
def finS (ts : List Ty) (Φ : Tup ts → Prop) : Option (List CV) → Prop
  | some l => finX Φ (typed ts l)
  | none => False
def finV (ts : List Ty) (hp : List HC) (Φ : Tup ts → Prop) : Option (List CV) → Prop
  | some l => finS ts Φ (snapArgs hp l)
  | none => False
/-- What is handed back stands as it is said. -/
def finG (n : Nat) (hp : List HC) (K : AV → List HC → Prop) : Option (List CV) → Prop
  | some l => ∃ r' h', Weak n ⟨[resAV l], hp⟩ ⟨[r'], h'⟩ ∧ K r' h'
  | none => False
@[congr] theorem finG_c {n : Nat} {hp : List HC} {K : AV → List HC → Prop} {q q' : Option (List CV)} (h : q = q') : finG n hp K q = finG n hp K q' := by rw [h]
theorem finG_some {n : Nat} {hp : List HC} {K : AV → List HC → Prop} {l : List CV} : finG n hp K (some l) = ∃ r' h', Weak n ⟨[resAV l], hp⟩ ⟨[r'], h'⟩ ∧ K r' h' := rfl
def evV {P : Program} (X : Tbl P) (M : Mode P) (D : DrawP P) (fn : Func) (args : List CV) (ts : List Ty) (Φ : Tup ts → Prop) : Prop :=
  match fn.body with
  | some c => cvsBnd args → evC X M D 0 c ⟨args.map AV.v ++ List.replicate (fn.ntmps - args.length) (.tup []), []⟩ fun e s => match e with
    | .normal => finV ts s.hp Φ (resVars X s.tm s.hp fn.results.toList)
    | .exit _ => False
    | .ret => finV ts s.hp Φ (resVars X s.tm s.hp fn.results.toList)
  | none => False

section
variable {P : Program} {X : Tbl P} {M : Mode P} {D : DrawP P} {n : Nat}
theorem finX_some {α : Type} {Φ : α → Prop} {x : α} : finX Φ (some x) = Φ x := rfl
theorem finS_some {ts : List Ty} {Φ : Tup ts → Prop} {l : List CV} : finS ts Φ (some l) = finX Φ (typed ts l) := rfl
theorem finV_some {ts : List Ty} {hp : List HC} {Φ : Tup ts → Prop} {l : List CV} : finV ts hp Φ (some l) = finS ts Φ (snapArgs hp l) := rfl
@[congr] theorem finX_c {α : Type} {Φ : α → Prop} {q q' : Option α} (h : q = q') : finX Φ q = finX Φ q' := by rw [h]
@[congr] theorem finS_c {ts : List Ty} {Φ : Tup ts → Prop} {q q' : Option (List CV)} (h : q = q') : finS ts Φ q = finS ts Φ q' := by rw [h]
@[congr] theorem finV_c {ts : List Ty} {hp : List HC} {Φ : Tup ts → Prop} {q q' : Option (List CV)} (h : q = q') : finV ts hp Φ q = finV ts hp Φ q' := by rw [h]

theorem finV_weak {ts : List Ty} {hp : List HC} {Φ : Tup ts → Prop} {q : Option (List CV)} (h : finV ts hp Φ q) : ∃ l, q = some l ∧ ∃ r' h', Weak 0 ⟨[resAV l], hp⟩ ⟨[r'], h'⟩ ∧ ∃ x, r' = resAV (cvs ts x) ∧ h' = [] ∧ Φ x := by
  cases q with
  | none => exact h.elim
  | some l =>
    refine ⟨l, rfl, ?_⟩
    simp only [finV] at h
    cases hs : snapArgs hp l with
    | none => rw [hs] at h; exact h.elim
    | some l' =>
      rw [hs] at h
      simp only [finS] at h
      cases hx : typed ts l' with
      | none => rw [hx] at h; exact h.elim
      | some x => rw [hx] at h; exact ⟨_, _, (Weak.snap hs).trans (Weak.typed hx), x, rfl, rfl, h⟩

theorem acall_of_evV (hM : ModeOk P M) (hD : DrawOk P D) {k : Nat} {fn : Func} (hf : P.funcs[k]? = some fn) (hname : fn.name ≠ "runtime.NumGoroutine") {args : List CV} {ts : List Ty} {Φ : Tup ts → Prop}
    (h : evV X M D fn args ts Φ) : ACall P k args [] fun r h => ∃ x, r = resAV (cvs ts x) ∧ h = [] ∧ Φ x := by
  unfold evV at h
  split at h
  · rename_i c hc
    refine ⟨⟨fn, hf, by rw [hc]; rfl, hname⟩, fun w0 S E vs hR hE hargs => ?_⟩
    have h := h (cvs_bnd hargs)
    -- the same walk, as 'acall_of_ev' makes it
    have key : ∀ (K : Ex → St → Prop), evC X M D 0 c ⟨args.map AV.v ++ List.replicate (fn.ntmps - args.length) (.tup []), []⟩ K → (∀ e s, K e s → match e with
        | .exit _ => False
        | _ => ∃ l, resVars X s.tm s.hp fn.results.toList = some l ∧ ∃ r' h', Weak 0 ⟨[resAV l], s.hp⟩ ⟨[r'], h'⟩ ∧ ∃ x, r' = resAV (cvs ts x) ∧ h' = [] ∧ Φ x) →
        Calls P k vs.toArray E.w fun e w' => ∃ av E' v, e = .returned v ∧ (∃ x, av = resAV (cvs ts x) ∧ E'.hp = [] ∧ Φ x) ∧ E'.w = w' ∧ Le E E' ∧ HR w0 S E' ∧ AVR E' av v := by
      intro K hK hfin
      have hlen : vs.length = args.length := by
        have := hargs.length (s := 1) (fun x c ⟨v, e, _⟩ => by rw [e]; rfl)
        omega
      refine calls_of_wp hf hc (evC_ok (w0 := w0) (S := S) (E0 := E) (n := 0) hM hD c _ _ _ _ E.w hK ⟨E, rfl, hE, hR, ?_, LeN.refl _ _, rfl⟩ ?_)
      · constructor
        · simp [hlen]
        · intro t
          rcases Nat.lt_or_ge t args.length with ht | ht
          · obtain ⟨v, h1, h2⟩ := segs1_get hargs t args[t] (List.getElem?_eq_getElem ht)
            have e1 : (args.map AV.v ++ List.replicate (fn.ntmps - args.length) (AV.tup [])).getD t (.v (.one .u)) = .v args[t] := by
              rw [List.getD_eq_getElem?_getD, List.getElem?_append_left (by simpa using ht), List.getElem?_map, List.getElem?_eq_getElem ht]; rfl
            have e2 : (vs.toArray ++ Array.replicate (fn.ntmps - vs.toArray.size) undef).getD t undef = v := by
              rw [Array.getD_eq_getD_getElem?, Array.getElem?_append_left (by simp; omega)]
              simp [h1]
            show AVR E _ ((vs.toArray ++ Array.replicate (fn.ntmps - vs.toArray.size) undef).getD t undef)
            rw [e1, e2]
            exact h2
          · have e2 : (vs.toArray ++ Array.replicate (fn.ntmps - vs.toArray.size) undef).getD t undef = undef := by
              rw [Array.getD_eq_getD_getElem?, Array.getElem?_append_right (by simp; omega), Array.getElem?_replicate]
              split <;> rfl
            show AVR E _ ((vs.toArray ++ Array.replicate (fn.ntmps - vs.toArray.size) undef).getD t undef)
            rw [e2, List.getD_eq_getElem?_getD, List.getElem?_append_right (by simpa using ht), List.getElem?_replicate]
            split
            · exact ⟨[], rfl, rfl⟩
            · trivial
      · intro e a w hl
        have fin : ∀ st, Rel w0 S E 0 st a w → (∃ l, resVars X st.tm st.hp fn.results.toList = some l ∧ ∃ r' h', Weak 0 ⟨[resAV l], st.hp⟩ ⟨[r'], h'⟩ ∧ ∃ x, r' = resAV (cvs ts x) ∧ h' = [] ∧ Φ x) →
            a.defers = [] ∧ ∃ v, (results fn a.tmps).run P w = .ok v w ∧ ∃ av E' v', Ending.returned v = .returned v' ∧ (∃ x, av = resAV (cvs ts x) ∧ E'.hp = [] ∧ Φ x) ∧ E'.w = w ∧ Le E E' ∧ HR w0 S E' ∧ AVR E' av v' := by
          rintro st hr ⟨l, hres, r', h', hw, x, e1, e2, hx⟩
          obtain ⟨E1, rfl, g2, e3, e4, e5, e6⟩ := hr
          refine ⟨e6, ?_⟩
          rw [← g2] at hres
          obtain ⟨vs', h1, h2⟩ := resVars_ok e3 e4 _ _ hres
          have hv : AVR E1 (resAV l) (if h : vs'.toArray.size = 1 then vs'.toArray[0] else .tuple vs'.toArray) := by
            match l, h2 with
            | [], h2 => cases h2; exact ⟨[], rfl, rfl⟩
            | [x], h2 =>
              obtain ⟨c1, c2, e, ⟨v, hv1, hv2⟩, h3⟩ := h2
              cases h3
              subst hv1
              subst e
              exact hv2
            | x :: y :: l, h2 =>
              have hh := h2
              obtain ⟨c1, c2, e, ⟨v, hv1, hv2⟩, c3, c4, e', ⟨v', hv3, hv4⟩, h3⟩ := h2
              subst hv1 hv3 e' e
              exact ⟨_, by simp, hh⟩
          obtain ⟨E2, f1, f2, f3, f4, f5⟩ := hw w0 S E E1 #[if h : vs'.toArray.size = 1 then vs'.toArray[0] else .tuple vs'.toArray] e3 g2 ⟨rfl, fun t => by
              cases t with
              | zero => exact hv
              | succ t => trivial⟩ e5
          have no : ∀ id : Nat, notYet E.hp[id]? := fun id => by rw [hE]; simp [notYet]
          refine ⟨(if h : vs'.toArray.size = 1 then vs'.toArray[0] else .tuple vs'.toArray), ?_, r', E2, (if h : vs'.toArray.size = 1 then vs'.toArray[0] else .tuple vs'.toArray), rfl, ⟨x, e1, by rw [f2]; exact e2, hx⟩, f1, f5.le (fun id hi => no id) (fun id hn => no id), f3, f4.2 0⟩
          have h1' : (List.mapM (m := Sem) (fun (r : ResultVar) => (match r with
            | .tmp t => Pure.pure (a.tmps.getD t undef)
            | .cell a' t => do loadVar t (← asAddr (a.tmps.getD a' undef)) : Sem Value)) fn.results.toList).run P E1.w = .ok vs' E1.w := h1
          have hmap : (Array.mapM (m := Sem) (fun (r : ResultVar) => (match r with
            | .tmp t => Pure.pure (a.tmps.getD t undef)
            | .cell a' t => do loadVar t (← asAddr (a.tmps.getD a' undef)) : Sem Value)) fn.results).run P E1.w = .ok vs'.toArray E1.w := by
            rw [Array.mapM_eq_mapM_toList, ← bind_pure_comp, Sem.run_bind, h1']
            rfl
          unfold results
          rw [Sem.run_bind]
          exact (congrArg (fun r => Result.andThen r (fun (a : Array Value) w' => Sem.run P (Pure.pure (if h : a.size = 1 then a[0] else Value.tuple a)) w')) hmap).trans rfl
        cases e with
        | normal => obtain ⟨st, hk, hr⟩ := hl; exact fin st hr (hfin .normal st hk)
        | ret => obtain ⟨st, hk, hr⟩ := hl; exact fin st hr (hfin .ret st hk)
        | exit id => obtain ⟨st, hk, hr⟩ := hl; exact (hfin (.exit id) st hk).elim
        | _ => exact hl.elim
    refine key _ h fun e s hk => ?_
    cases e with
    | normal => exact finV_weak hk
    | exit id => exact hk
    | ret => exact finV_weak hk
  · exact h.elim

/-- A contract by a walk: values in, values out. -/
theorem con_val0 (hM : ModeOk P M) (hD : DrawOk P D) {k : Nat} {fn : Func} (hf : P.funcs[k]? = some fn) (hname : fn.name ≠ "runtime.NumGoroutine") {as rs : List Ty} {p : Tup as → Prop} {f : Tup as → Tup rs}
    (h : ∀ x, p x → evV X M D fn (cvs as x) rs fun y => y = f x) : Con.Ok P k ⟨as, fun x => (p x, resAV (cvs rs (f x)), [])⟩ := by
  intro x hx
  refine (acall_of_evV hM hD hf hname (h x hx)).mono ?_
  rintro r h' ⟨y, rfl, rfl, rfl⟩
  exact ⟨rfl, rfl⟩
@[reducible] def vcon (as rs : List Ty) (p : Tup as → Prop) (f : Tup as → Tup rs) : Con := ⟨as, fun x => (p x, resAV (cvs rs (f x)), [])⟩

theorem evC_condT {t : Nat} {a b : Code} {st : St} {K : Ex → St → Prop} : evC X M D n (.cond (.tmp t) a b) st K = (match st.tm.getD t (.v (.one .u)) with
    | .v (.one (.c .bool x)) => (match (x : Bool) with
      | true => evC X M D n a ⟨st.tm.set t (.v (.one (.c .bool true))), st.hp⟩ K
      | false => evC X M D n b ⟨st.tm.set t (.v (.one (.c .bool false))), st.hp⟩ K)
    | _ => False) := by
  have key : ∀ x : Bool, st.tm.getD t (.v (.one .u)) = .v (.one (.c .bool x)) → st.tm.set t (.v (.one (.c .bool x))) = st.tm := fun x h => by
    apply List.ext_getElem?
    intro i
    rw [List.getElem?_set]
    split
    · rename_i e
      subst e
      split
      · rename_i hl
        rw [List.getD_eq_getElem?_getD, List.getElem?_eq_getElem hl] at h
        rw [List.getElem?_eq_getElem hl]
        exact congrArg some h.symm
      · rename_i hl
        rw [List.getElem?_eq_none (by omega)]
    · rfl
  have stB : ∀ (x : Bool), st.tm.getD t (.v (.one .u)) = .v (.one (.c .bool x)) → (match x with
      | true => evC X M D n a st K
      | false => evC X M D n b st K) = (match x with
      | true => evC X M D n a ⟨st.tm.set t (.v (.one (.c .bool true))), st.hp⟩ K
      | false => evC X M D n b ⟨st.tm.set t (.v (.one (.c .bool false))), st.hp⟩ K) := fun x h => by
    have := key x h
    cases x
    · simp only; rw [this]
    · simp only; rw [this]
  rw [evC_cond]
  simp only [opd]
  generalize hg : st.tm.getD t (.v (.one .u)) = g at stB
  cases g with
  | tup l => rfl
  | v c =>
    cases c with
    | one s =>
      cases s with
      | c ty x =>
        cases ty with
        | bool => exact stB x rfl
        | _ => rfl
      | _ => rfl
    | _ => rfl

theorem evC_condC {v : Value} {a b : Code} {st : St} {K : Ex → St → Prop} : evC X M D n (.cond (.const v) a b) st K = (match constV X 0 v with
    | .c .bool x => (match (x : Bool) with
      | true => evC X M D n a st K
      | false => evC X M D n b st K)
    | _ => False) := rfl

/-! Slots told by what was put last. -/
def lookA (d : AV) : List (Nat × AV) → Nat → AV
  | [], _ => d
  | (j, a) :: l, i => if j = i then a else lookA d l i
def mkS (d : AV) (n : Nat) (l : List (Nat × AV)) : List AV := (List.range n).map (lookA d l)

theorem mkS_len {d : AV} {n : Nat} {l : List (Nat × AV)} : (mkS d n l).length = n := by simp [mkS]
theorem mkS_get {d : AV} {n : Nat} {l : List (Nat × AV)} {t : Nat} : (mkS d n l)[t]? = if t < n then some (lookA d l t) else none := by
  unfold mkS
  rw [List.getElem?_map]
  by_cases h : t < n
  · rw [if_pos h, List.getElem?_range h]; rfl
  · rw [if_neg h, List.getElem?_eq_none (by simpa using h)]; rfl
theorem mkS_getD {d e : AV} {n : Nat} {l : List (Nat × AV)} {t : Nat} : (mkS d n l).getD t e = if t < n then lookA d l t else e := by
  rw [List.getD_eq_getElem?_getD, mkS_get]
  split <;> rfl
theorem mkS_set {d : AV} {n : Nat} {l : List (Nat × AV)} {t : Nat} {a : AV} : (mkS d n l).set t a = mkS d n ((t, a) :: l) := by
  apply List.ext_getElem?
  intro i
  rw [List.getElem?_set, mkS_get, mkS_get, mkS_len]
  by_cases h : t = i
  · subst h; simp [lookA]
  · simp only [if_neg h, lookA]
theorem mkS_frz {d : AV} {n id : Nat} {l : List (Nat × AV)} {hp : List HC} (hd : frzAV hp id d = d) : frzT id (mkS d n l) hp = mkS d n (l.map fun p => (p.1, frzAV hp id p.2)) := by
  unfold frzT mkS
  rw [List.map_map]
  refine List.map_congr_left fun i _ => ?_
  simp only [Function.comp]
  induction l with
  | nil => exact hd
  | cons p l ih =>
    obtain ⟨j, a⟩ := p
    simp only [lookA, List.map_cons]
    by_cases h : j = i
    · rw [if_pos h, if_pos h]
    · rw [if_neg h, if_neg h]; exact ih
theorem mkS_frz0 {n id : Nat} {l : List (Nat × AV)} {hp : List HC} : frzT id (mkS (.tup []) n l) hp = mkS (.tup []) n (l.map fun p => (p.1, frzAV hp id p.2)) := mkS_frz rfl
theorem mkS_frz1 {n id : Nat} {l : List (Nat × AV)} {hp : List HC} : frzT id (mkS (.v (.one .u)) n l) hp = mkS (.v (.one .u)) n (l.map fun p => (p.1, frzAV hp id p.2)) := mkS_frz rfl

def argL : Nat → List CV → List (Nat × AV)
  | _, [] => []
  | i, a :: l => (i, .v a) :: argL (i + 1) l
theorem argL_look (d : AV) : ∀ (l : List CV) (i j : Nat), lookA d (argL i l) j = if i ≤ j then (match l[j - i]? with
    | some a => .v a
    | none => d) else d
  | [], i, j => by simp [argL, lookA]
  | a :: l, i, j => by
    simp only [argL, lookA]
    rw [argL_look d l (i + 1) j]
    by_cases h : i = j
    · subst h; simp
    · rw [if_neg h]
      by_cases h2 : i ≤ j
      · rw [if_pos h2, if_pos (by omega), show j - i = (j - (i + 1)) + 1 by omega]; simp
      · rw [if_neg h2, if_neg (by omega)]
theorem init_eq {args : List CV} {n : Nat} (h : args.length ≤ n) : args.map AV.v ++ List.replicate (n - args.length) (AV.tup []) = mkS (.tup []) n (argL 0 args) := by
  apply List.ext_getElem?
  intro i
  rw [mkS_get, argL_look]
  simp only [Nat.zero_le, if_true, Nat.sub_zero]
  by_cases h1 : i < args.length
  · rw [List.getElem?_append_left (by simpa using h1), List.getElem?_map, if_pos (by omega), List.getElem?_eq_getElem h1]; rfl
  · rw [List.getElem?_append_right (by simpa using h1), List.getElem?_replicate, List.length_map]
    by_cases h2 : i < n
    · rw [if_pos h2, if_pos (by omega), List.getElem?_eq_none (by omega)]
    · rw [if_neg h2, if_neg (by omega)]

def evW {P : Program} (X : Tbl P) (M : Mode P) (D : DrawP P) (c : Code) (nt : Nat) (rs : List ResultVar) (args : List CV) (ts : List Ty) (Φ : Tup ts → Prop) : Prop :=
  cvsBnd args → evC X M D 0 c ⟨mkS (.tup []) nt (argL 0 args), []⟩ fun e s => match e with
    | .normal => finV ts s.hp Φ (resVars X s.tm s.hp rs)
    | .exit _ => False
    | .ret => finV ts s.hp Φ (resVars X s.tm s.hp rs)
theorem con_val (hM : ModeOk P M) (hD : DrawOk P D) {k : Nat} {fn : Func} (hf : P.funcs[k]? = some fn) (hname : fn.name ≠ "runtime.NumGoroutine") {as rs : List Ty} {p : Tup as → Prop} {f : Tup as → Tup rs} {c : Code} {nt : Nat} {rv : List ResultVar}
    (hb : fn.body = some c) (hn : fn.ntmps = nt) (hrs : fn.results = rv.toArray) (hl : as.length ≤ nt)
    (h : ∀ x, p x → evW X M D c nt rv (cvs as x) rs fun y => y = f x) : Con.Ok P k ⟨as, fun x => (p x, resAV (cvs rs (f x)), [])⟩ :=
  con_val0 hM hD hf hname fun x hx => by
    have := h x hx
    unfold evW at this
    unfold evV
    rw [hb]
    simp only
    rw [hn, init_eq (by rw [cvs_len]; exact hl), hrs, List.toList_toArray]
    exact this
theorem acall_val (hM : ModeOk P M) (hD : DrawOk P D) {k : Nat} {fn : Func} (hf : P.funcs[k]? = some fn) (hname : fn.name ≠ "runtime.NumGoroutine") {args : List CV} {rs : List Ty} {z : Tup rs} {c : Code} {nt : Nat} {rv : List ResultVar}
    (hb : fn.body = some c) (hn : fn.ntmps = nt) (hrs : fn.results = rv.toArray) (hl : args.length ≤ nt)
    (h : evW X M D c nt rv args rs fun y => y = z) : ACall P k args [] fun r h => r = resAV (cvs rs z) ∧ h = [] := by
  refine (acall_of_evV (X := X) (ts := rs) (Φ := fun y => y = z) hM hD hf hname ?_).mono ?_
  · unfold evW at h
    unfold evV
    rw [hb]
    simp only
    rw [hn, init_eq hl, hrs, List.toList_toArray]
    exact h
  · rintro r h' ⟨x, rfl, rfl, rfl⟩
    exact ⟨rfl, rfl⟩
/-- A call by what is proved of it, its arguments closed. -/
theorem leaf {k : Nat} {args : List CV} {hp : List HC} {K : AV → List HC → Prop} {v : AV} (h : ACall P k args [] fun r h => r = v ∧ h = []) (hc : args.all CV.cl = true) (hv : v.cl = true) (hk : K v hp) : ACall P k args hp K :=
  iso0 hc (h.mono fun r h ⟨e1, e2⟩ => by subst e1 e2; rw [renAV_cl hv]; simpa using hk)
/-- A call that is shown its caller's memory. -/
theorem leafS {k : Nat} {args args' : List CV} {hp : List HC} {K : AV → List HC → Prop} {v : AV} (hs : snapArgs hp args = some args') (h : ACall P k args' [] fun r h => r = v ∧ h = []) (hv : v.cl = true) (hf : v.flat = true) (hk : K v hp) : ACall P k args hp K :=
  iso1 hs (h.mono fun r h ⟨e1, e2⟩ => by subst e1 e2; rw [renAV_cl hv]; exact ⟨⟨hf, rfl⟩, by simpa using hk⟩)
theorem leafW {k : Nat} {args : List CV} {hp : List HC} {Φ : AV → List HC → Prop} {v : AV} (h : ACall P k args [] fun r h => r = v ∧ h = []) (hc : args.all CV.cl = true) (hv : v.cl = true) (hk : Φ v []) : callW P k args hp [] Φ := by
  simp only [callW, callD, hc]
  exact h.mono fun r h ⟨e1, e2⟩ => by subst e1 e2; exact ⟨rfl, hv, hk⟩
theorem leafWS {k : Nat} {args args' : List CV} {hp : List HC} {Φ : AV → List HC → Prop} {v : AV} (hc : args.all CV.cl = false) (hs : snapArgsS hp args = some args') (h : ACall P k args' [] fun r h => r = v ∧ h = []) (hv : v.cl = true) (hf : v.flat = true) (hk : Φ v []) : callW P k args hp [] Φ := by
  simp only [callW, callD, hc, hs]
  exact h.mono fun r h ⟨e1, e2⟩ => by subst e1 e2; exact ⟨rfl, hv, hf, hk⟩
/-- Likewise, told whole. -/
def evG {P : Program} (X : Tbl P) (M : Mode P) (D : DrawP P) (c : Code) (nt : Nat) (rs : List ResultVar) (args : List CV) (hp : List HC) (K : AV → List HC → Prop) : Prop :=
  cvsBnd args → evC X M D hp.length c ⟨mkS (.tup []) nt (argL 0 args), hp⟩ fun e s => match e with
    | .normal => finG hp.length s.hp K (resVars X s.tm s.hp rs)
    | .exit _ => False
    | .ret => finG hp.length s.hp K (resVars X s.tm s.hp rs)
theorem acall_of_evG (hM : ModeOk P M) (hD : DrawOk P D) {k : Nat} {fn : Func} (hf : P.funcs[k]? = some fn) (hname : fn.name ≠ "runtime.NumGoroutine") {args : List CV} {hp : List HC} {K : AV → List HC → Prop} {c : Code} {nt : Nat} {rv : List ResultVar}
    (hb : fn.body = some c) (hn : fn.ntmps = nt) (hrs : fn.results = rv.toArray) (hl : args.length ≤ nt) (h : evG X M D c nt rv args hp K) : ACall P k args hp K := by
  refine acall_of_ev (X := X) hM hD hf hname ?_
  unfold evG at h
  unfold evF
  rw [hb]
  simp only
  intro hbnd
  have h := h hbnd
  rw [hn, init_eq hl, hrs, List.toList_toArray]
  have e : (fun (e : Ex) (s : St) => match e with
    | .normal => finG hp.length s.hp K (resVars X s.tm s.hp rv)
    | .exit _ => False
    | .ret => finG hp.length s.hp K (resVars X s.tm s.hp rv)) = (fun (e : Ex) (s : St) => match e with
    | .exit _ => False
    | _ => match resVars X s.tm s.hp rv with
      | some l => ∃ r' h', Weak hp.length ⟨[resAV l], s.hp⟩ ⟨[r'], h'⟩ ∧ K r' h'
      | none => False) := by
    funext e s
    cases e with
    | exit id => rfl
    | _ => simp only; cases resVars X s.tm s.hp rv <;> rfl
  rw [e] at h
  exact h

/-! A loop's head: what is kept, and what is told. -/
def keepS (d : AV) (l : List (Nat × AV)) : List Nat → List (Nat × AV)
  | [] => []
  | i :: is => (i, lookA d l i) :: keepS d l is
theorem keepS_look {d : AV} {l : List (Nat × AV)} (ρ : Nat → Option Nat) {i : Nat} : ∀ (keep : List Nat), lookA (.v (.one .u)) ((keepS d l keep).map fun p => (p.1, renAV ρ p.2)) i = if keep.contains i then renAV ρ (lookA d l i) else .v (.one .u)
  | [] => by simp [keepS, lookA]
  | j :: is => by
    simp only [keepS, List.map_cons, lookA]
    by_cases h : j = i
    · subst h; simp
    · rw [if_neg h, keepS_look ρ is]
      have : ((j :: is).contains i) = is.contains i := by
        simp only [List.contains_cons]
        have : (i == j) = false := by simp; exact fun e => h e.symm
        rw [this]; rfl
      rw [this]
theorem keepT_get' (ρ : Nat → Option Nat) (keep : List Nat) : ∀ (l : List AV) (i t : Nat), (keepT ρ keep i l)[t]? = (l[t]?).map fun a => if keep.contains (i + t) then renAV ρ a else .v (.one .u)
  | [], i, t => by simp [keepT]
  | a :: l, i, 0 => by simp [keepT]
  | a :: l, i, t + 1 => by
    simp only [keepT, List.getElem?_cons_succ]
    rw [keepT_get' ρ keep l (i + 1) t, show i + 1 + t = i + (t + 1) by omega]
theorem mkS_map {d : AV} {m : Nat} {l : List (Nat × AV)} {f : AV → AV} : (mkS d m l).map f = mkS (f d) m (l.map fun p => (p.1, f p.2)) := by
  unfold mkS
  rw [List.map_map]
  refine List.map_congr_left fun i _ => ?_
  simp only [Function.comp]
  induction l with
  | nil => rfl
  | cons p l ih =>
    obtain ⟨j, a⟩ := p
    simp only [lookA, List.map_cons]
    by_cases h : j = i
    · rw [if_pos h, if_pos h]
    · rw [if_neg h, if_neg h]; exact ih
theorem trim_mkS {n m : Nat} {keep olds : List Nat} {d : AV} {l : List (Nat × AV)} {hp : List HC} : trim n keep olds ⟨mkS d m l, hp⟩ = ⟨mkS (.v (.one .u)) m ((keepS d l keep).map fun p => (p.1, renAV (rho n olds) p.2)), trimHp n olds hp⟩ := by
  unfold trim
  congr 1
  apply List.ext_getElem?
  intro t
  rw [keepT_get', mkS_get, mkS_get, keepS_look, Nat.zero_add]
  by_cases h : t < m
  · rw [if_pos h, if_pos h]; rfl
  · rw [if_neg h, if_neg h]; rfl

/-- A loop: its states are told by what varies. -/
theorem evC_for {α : Type} {b : Code} {d : AV} {m : Nat} {l : List (Nat × AV)} {hp : List HC} {K : Ex → St → Prop} (keep : List Nat) (vary : α → List (Nat × AV)) (hps : α → List HC) (Inv : α → Prop) (μ : α → Nat) (all olds : List Nat) (a0 : α)
    (k0 : keeps n olds hp = true) (e0 : trim n all olds ⟨mkS d m l, hp⟩ = ⟨mkS (.v (.one .u)) m (keepS d l keep ++ vary a0), hps a0⟩) (h0 : Inv a0)
    (round : ∀ a, Inv a → evC X M D n b ⟨mkS (.v (.one .u)) m (keepS d l keep ++ vary a), hps a⟩ fun e s' => match e with
      | .normal => Back n (fun a => ⟨mkS (.v (.one .u)) m (keepS d l keep ++ vary a), hps a⟩) Inv μ a s'
      | .exit id => K (.exit id) s'
      | .ret => K .ret s') : evC X M D n (.loop b) ⟨mkS d m l, hp⟩ K :=
  evC_loop (fun a => ⟨mkS (.v (.one .u)) m (keepS d l keep ++ vary a), hps a⟩) Inv μ all olds a0 k0 e0 h0 round
end
end Go.Proofs.Ytgkjgpiggjjmpaa.Ev
