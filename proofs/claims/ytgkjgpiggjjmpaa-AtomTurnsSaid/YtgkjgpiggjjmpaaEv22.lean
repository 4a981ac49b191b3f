/- Lemmas for the claim: A row that is not written any more. (no condition.) -/
import Derived.Test.YtgkjgpiggjjmpaaEv21
/-! A row that is not written any more. -/
namespace Go.Proofs.Ytgkjgpiggjjmpaa.Ev
open Go
set_option linter.unusedVariables false

def frz (id : Nat) (st : St) : St := ⟨frzT id st.tm st.hp, frzH id st.hp⟩
theorem Weak.frz {n : Nat} {id : Nat} {st : St} (hi : isRow st.hp id = true) : Weak n st (frz id st) := by
  intro w0 S E0 E tmps h1 h2 h3 h4
  rw [← h2] at hi
  obtain ⟨E', e1, e2, e3, e4, e5⟩ := frz_env h1 hi
  exact ⟨E', e1, by rw [e2, h2]; rfl, e3, by show TR E' (frzT id st.tm st.hp) tmps; rw [← h2]; exact h3.frz e5, h4.trans (e4.n n)⟩

theorem Weak.fz {n : Nat} : ∀ {l : List Nat} {st : St}, Weak n st (fz l st)
  | [], st => Weak.refl n st
  | id :: l, st => by
    simp only [Ev.fz]
    split
    · rename_i hi
      exact (Weak.frz hi).trans Weak.fz
    · exact Weak.fz

/-- All that is handed back falls still. -/
theorem fin_cl {n : Nat} {r : AV} {hp : List HC} {K : AV → List HC → Prop} (ids : List Nat) (hk : keeps n [] (fz ids ⟨[r], hp⟩).hp = true) (st : St) (e : trim n [0] [] (fz ids ⟨[r], hp⟩) = st) (h : ∃ r', st.tm = [r'] ∧ K r' st.hp) : ∃ r' h', Weak n ⟨[r], hp⟩ ⟨[r'], h'⟩ ∧ K r' h' := by
  obtain ⟨r', h1, h2⟩ := h
  refine ⟨r', st.hp, ?_, h2⟩
  have := (Weak.fz (n := n) (l := ids) (st := ⟨[r], hp⟩)).trans (Weak.trim (keep := [0]) hk)
  rw [e] at this
  cases st
  simp only at h1
  subst h1
  exact this

/-- How calls are made: those of sh share their caller's memory. -/
def isoM (P : Program) (sh : Nat → Bool) : Mode P := fun k args hp K => match sh k with
  | true => ACall P k args hp K
  | false => match args.all CV.cl with
    | true => ACall P k args [] fun r h => K (renAV (up hp.length) r) (hp ++ h.map (renHC (up hp.length)))
    | false => match snapArgs hp args with
      | some args' => ACall P k args' [] fun r h => (r.flat = true ∧ h.all HC.flat = true) ∧ K (renAV (up hp.length) r) (hp ++ h.map (renHC (up hp.length)))
      | none => False

theorem isoM_ok (P : Program) (sh : Nat → Bool) : ModeOk P (isoM P sh) := by
  intro k args hp K h
  unfold isoM at h
  split at h
  · exact h
  · split at h
    · rename_i hc
      exact iso0 hc h
    · split at h
      · rename_i args' hs
        exact iso1 hs h
      · exact h.elim
end Go.Proofs.Ytgkjgpiggjjmpaa.Ev
