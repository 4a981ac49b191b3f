/- Lemmas for the claim: Calls by what is proved of the function. (no condition.) -/
import Derived.Test.YtgkjgpiggjjmpaaEv29
/-! Calls by what is proved of the function. -/
namespace Go.Proofs.Ytgkjgpiggjjmpaa.Ev
open Go
set_option linter.unusedVariables false

section
variable {P : Program} {sh : Nat → Bool} {k : Nat} {args args' : List CV} {hp : List HC} {K : AV → List HC → Prop} {Φ : AV → List HC → Prop} {v : AV}

theorem iso_call (hsh : sh k = false) (hc : args.all CV.cl = true) (h : ACall P k args [] Φ) (hk : ∀ r h, Φ r h → K (renAV (up hp.length) r) (hp ++ h.map (renHC (up hp.length)))) : isoM P sh k args hp K := by
  unfold isoM
  rw [hsh]
  simp only [hc]
  exact h.mono hk
theorem iso_val (hsh : sh k = false) (hc : args.all CV.cl = true) (h : ACall P k args [] fun r h => r = v ∧ h = []) (hv : v.cl = true) (hk : K v hp) : isoM P sh k args hp K :=
  iso_call hsh hc h fun r h ⟨e1, e2⟩ => by
    subst e1 e2
    rw [renAV_cl hv]
    simpa using hk
theorem iso_snap (hsh : sh k = false) (hc : args.all CV.cl = false) (hs : snapArgs hp args = some args') (h : ACall P k args' [] fun r h => r = v ∧ h = []) (hv : v.cl = true) (hf : v.flat = true) (hk : K v hp) : isoM P sh k args hp K := by
  unfold isoM
  rw [hsh]
  simp only [hc, hs]
  refine h.mono fun r h ⟨e1, e2⟩ => ?_
  subst e1 e2
  rw [renAV_cl hv]
  exact ⟨⟨hf, rfl⟩, by simpa using hk⟩
theorem call_val {K : AV → Prop} (hc : args.all CV.cl = true) (h : ACall P k args [] fun r h => r = v ∧ h = []) (hv : v.cl = true) (hk : K v) : callD P k args hp K := by
  unfold callD
  simp only [hc]
  exact h.mono fun r h ⟨e1, e2⟩ => by subst e1 e2; exact ⟨rfl, hv, hk⟩
theorem call_snap {K : AV → Prop} (hc : args.all CV.cl = false) (hs : snapArgsS hp args = some args') (h : ACall P k args' [] fun r h => r = v ∧ h = []) (hv : v.cl = true) (hf : v.flat = true) (hk : K v) : callD P k args hp K := by
  unfold callD
  simp only [hc, hs]
  exact h.mono fun r h ⟨e1, e2⟩ => by subst e1 e2; exact ⟨rfl, hv, hf, hk⟩
@[congr] theorem isoM_c {args args' : List CV} {hp hp' : List HC} {K : AV → List HC → Prop} (h : args = args') (h2 : hp = hp') : isoM P sh k args hp K = isoM P sh k args' hp' K := by rw [h, h2]
@[congr] theorem callD_c {args args' : List CV} {hp hp' : List HC} {K : AV → Prop} (h : args = args') (h2 : hp = hp') : callD P k args hp K = callD P k args' hp' K := by rw [h, h2]
@[congr] theorem evI_c {X : Tbl P} {ids : List Nat} {ops : List Oper} {slot slot' : Nat} {o : Oper} {st st' : St} {K : St → Prop} (h : slot = slot') (h2 : st = st') : evI X ids ops slot o st K = evI X ids ops slot' o st' K := by rw [h, h2]
@[congr] theorem evA_c {X : Tbl P} {ids : List Nat} {slot slot' : Nat} {o : Oper} {st st' : St} {K : St → Prop} (h : slot = slot') (h2 : st = st') : evA X ids slot o st K = evA X ids slot' o st' K := by rw [h, h2]
@[congr] theorem evD_c {X : Tbl P} {W : List (Nat × List Nat)} {ops : List Oper} {anc : List Nat} {base base' : Nat} {l : List Nat} {st st' : St} {K : St → Prop} (h : base = base') (h2 : st = st') : evD X W ops anc base l st K = evD X W ops anc base' l st' K := by rw [h, h2]
theorem all_one {caps : List SV} : (caps.map CV.one).all CV.cl = caps.all SV.cl := by
  induction caps with
  | nil => rfl
  | cons a l ih => simp only [List.map_cons, List.all_cons, ih]; rfl
theorem wrap_small {n : Int} (h : 0 ≤ n) (h2 : n ≤ 140737488355328) : IntKind.i64.wrap (n + 1) = n + 1 := wrap_i64 (by omega) (by omega)
end

theorem svIds_cl : ∀ {l : List SV}, l.all SV.cl = true → svIds l = []
  | [], _ => rfl
  | a :: l, h => by
    simp only [List.all_cons, Bool.and_eq_true] at h
    simp only [svIds, svIds_cl h.2]
    cases a <;> first | rfl | (have := h.1; cases this)

/-- No slice at all is as good as an empty one. -/
theorem fin_nil {n : Nat} {t : Ty} {hp : List HC} {K : AV → List HC → Prop} (h : K (.v (.one (.c (.sl t) []))) hp) : ∃ r' h', Weak n ⟨[.v (.one (.nl t))], hp⟩ ⟨[r'], h'⟩ ∧ K r' h' := by
  refine ⟨.v (.one (.c (.sl t) [])), hp, fun w0 S E0 E tmps h1 h2 h3 h4 => ⟨E, rfl, h2, h1, ⟨h3.1, fun i => ?_⟩, h4⟩, h⟩
  have := h3.2 i
  cases i with
  | zero =>
    have hv : tmps.getD 0 undef = .slice none 0 0 := this
    show SVR E (.c (.sl t) []) (tmps.getD 0 undef)
    rw [hv]
    exact ⟨[_], ⟨none, 0, rfl, ⟨Nat.le_refl 0, Nat.zero_le _⟩, fun h => absurd rfl h⟩, rfl⟩
  | succ i => trivial

/-- Where the first one is that p says yes to. -/
def idxFrom {α : Type} (p : α → Bool) : Int → List α → Int
  | _, [] => -1
  | i, x :: xs => if p x = true then i else idxFrom p (i + 1) xs
end Go.Proofs.Ytgkjgpiggjjmpaa.Ev
