/- Lemmas for the claim: Two cores' steps in either order, in plain Lean. (no condition.) -/
import Derived.Test.YtgkjgpiggjjmpaaAt7
/-! Two cores' steps in either order, in plain Lean. -/
namespace Go.Proofs.Ytgkjgpiggjjmpaa.Ev
open Go
set_option linter.unusedVariables false

def tch (w : Want) : Prop := 1 ≤ w.1 ∧ w.1 ≤ 3
def wrt (w : Want) : Prop := w.1 = 2 ∨ w.1 = 3
def wrB (m : List Int) (w : Want) : Bool := !(w.1 < 1 || w.1 > 3 || w.2.1 < 0 || decide ((m.length : Int) ≤ w.2.1)) && (w.1 == 2 || (w.1 == 3 && m.getD w.2.1.toNat 0 == w.2.2.2.1))
theorem actMem_wr (m : List Int) (w : Want) : actMem m w = if wrB m w then m.set w.2.1.toNat w.2.2.1 else m := by
  unfold actMem wrB
  split
  · rename_i h; rw [h]; rfl
  · rename_i h; rw [Bool.not_eq_true] at h; rw [h]; rfl
theorem wrB_touch {m : List Int} {w : Want} (h : wrB m w = true) : tch w ∧ wrt w ∧ 0 ≤ w.2.1 := by
  simp only [wrB, Bool.and_eq_true, Bool.not_eq_true', Bool.or_eq_false_iff, decide_eq_false_iff_not, Bool.or_eq_true, beq_iff_eq] at h
  refine ⟨⟨by omega, by omega⟩, ?_, by omega⟩
  rcases h.2 with h | h
  · exact .inl h
  · exact .inr h.1
theorem actMem_getD {m : List Int} {v w : Want} (h : ¬ (tch v ∧ tch w ∧ v.2.1 = w.2.1 ∧ (wrt v ∨ wrt w))) (hw : tch w) (h0 : 0 ≤ w.2.1) : (actMem m v).getD w.2.1.toNat 0 = m.getD w.2.1.toNat 0 := by
  rw [actMem_wr]
  split
  · rename_i hv
    obtain ⟨a, b, c⟩ := wrB_touch hv
    rw [getD_set, if_neg]
    rintro ⟨e, _⟩
    exact h ⟨a, hw, by omega, .inl b⟩
  · rfl
theorem wrB_step {m : List Int} {v w : Want} (h : ¬ (tch v ∧ tch w ∧ v.2.1 = w.2.1 ∧ (wrt v ∨ wrt w))) : wrB (actMem m v) w = wrB m w := by
  by_cases hg : (w.1 < 1 || w.1 > 3 || w.2.1 < 0 || decide ((m.length : Int) ≤ w.2.1)) = true
  · simp only [wrB, actMem_len, hg, Bool.not_true, Bool.false_and]
  · have hw : tch w ∧ 0 ≤ w.2.1 := by
      simp only [Bool.or_eq_true, decide_eq_true_eq, not_or] at hg
      exact ⟨⟨by omega, by omega⟩, by omega⟩
    simp only [wrB, actMem_len]
    rw [actMem_getD h hw.1 hw.2]
theorem actWas_step {m : List Int} {v w : Want} (h : ¬ (tch v ∧ tch w ∧ v.2.1 = w.2.1 ∧ (wrt v ∨ wrt w))) : actWas (actMem m v) w = actWas m w := by
  by_cases hg : (w.1 < 1 || w.1 > 3 || w.2.1 < 0 || decide ((m.length : Int) ≤ w.2.1)) = true
  · simp only [actWas, actMem_len, hg, ↓reduceIte]
  · have hw : tch w ∧ 0 ≤ w.2.1 := by
      simp only [Bool.or_eq_true, decide_eq_true_eq, not_or] at hg
      exact ⟨⟨by omega, by omega⟩, by omega⟩
    simp only [actWas, actMem_len]
    rw [actMem_getD h hw.1 hw.2]
theorem actMem_comm {m : List Int} {v w : Want} (h : ¬ (tch v ∧ tch w ∧ v.2.1 = w.2.1 ∧ (wrt v ∨ wrt w))) : actMem (actMem m v) w = actMem (actMem m w) v := by
  have h' : ¬ (tch w ∧ tch v ∧ w.2.1 = v.2.1 ∧ (wrt w ∨ wrt v)) := fun ⟨a, b, c, d⟩ => h ⟨b, a, c.symm, d.symm⟩
  rw [actMem_wr (actMem m v), wrB_step h, actMem_wr (actMem m w), wrB_step h', actMem_wr m v, actMem_wr m w]
  split
  · rename_i hw
    split
    · rename_i hv
      obtain ⟨a, b, c⟩ := wrB_touch hv
      obtain ⟨a', b', c'⟩ := wrB_touch hw
      exact List.set_comm _ _ (fun e => h ⟨a, a', by omega, .inl b⟩)
    · rfl
  · rfl
theorem want_step {l : List (List Ins)} {m : List Int} {c : List Core} {n k : Int} (h : n.toNat ≠ k.toNat) : stepWant l (stepMem l m c n) (stepCores l m c n) k = stepWant l m c k := by
  unfold stepWant
  rw [stepMem_len, step_other h]
theorem steps_comm {l : List (List Ins)} {m : List Int} {c : List Core} {o : List Told} {n k : Int} (hnk : n.toNat ≠ k.toNat)
    (h : ¬ (tch (stepWant l m c n) ∧ tch (stepWant l m c k) ∧ (stepWant l m c n).2.1 = (stepWant l m c k).2.1 ∧ (wrt (stepWant l m c n) ∨ wrt (stepWant l m c k))))
    (ht : ¬ ((stepWant l m c n).1 = 4 ∧ (stepWant l m c k).1 = 4)) : stepF l (stepF l (m, c, o, ()) n) k = stepF l (stepF l (m, c, o, ()) k) n := by
  have h' : ¬ (tch (stepWant l m c k) ∧ tch (stepWant l m c n) ∧ (stepWant l m c k).2.1 = (stepWant l m c n).2.1 ∧ (wrt (stepWant l m c k) ∨ wrt (stepWant l m c n))) := fun ⟨a, b, c, d⟩ => h ⟨b, a, c.symm, d.symm⟩
  have e1 := want_step (l := l) (m := m) (c := c) hnk
  have e2 := want_step (l := l) (m := m) (c := c) (Ne.symm hnk)
  have g1 : (stepCores l m c n).getD k.toNat coreZ = c.getD k.toNat coreZ := step_other hnk
  have g2 : (stepCores l m c k).getD n.toNat coreZ = c.getD n.toNat coreZ := step_other (Ne.symm hnk)
  have c1 : stepCores l (stepMem l m c n) (stepCores l m c n) k = stepCores l (stepMem l m c k) (stepCores l m c k) n := by
    rw [stepCores, e1, g1, stepCores, stepCores, e2, g2, stepCores, stepMem, actWas_step h, stepMem, actWas_step h']
    exact List.set_comm _ _ hnk
  have c2 : stepMem l (stepMem l m c n) (stepCores l m c n) k = stepMem l (stepMem l m c k) (stepCores l m c k) n := by
    rw [stepMem, e1, stepMem, stepMem, e2, stepMem]
    exact actMem_comm h
  have c3 : stepOuts l (stepMem l m c n) (stepCores l m c n) (stepOuts l m c o n) k = stepOuts l (stepMem l m c k) (stepCores l m c k) (stepOuts l m c o k) n := by
    simp only [stepOuts, e1, e2]
    by_cases a : (stepWant l m c n).1 = 4
    · have b : (stepWant l m c k).1 ≠ 4 := fun b => ht ⟨a, b⟩
      simp [a, b]
    · simp [a]
  simp only [stepF, c1, c2, c3]
theorem Ok.run {l : List (List Ins)} : ∀ (picks : List Int) {a : Atom}, Ok l a.1 a.2.1 → Ok l (picks.foldl (runF l) a).1 (picks.foldl (runF l) a).2.1 ∧ (picks.foldl (runF l) a).2.2.1.length ≤ a.2.2.1.length + picks.length
  | [], a, h => ⟨h, by simp⟩
  | x :: xs, a, h => by
    have hx : Ok l (runF l a x).1 (runF l a x).2.1 ∧ (runF l a x).2.2.1.length ≤ a.2.2.1.length + 1 := by
      unfold runF
      split
      · rename_i hr
        exact ⟨h.step hr.1 hr.2, (stepOuts_len _ _ _ _ _).2⟩
      · exact ⟨h, by omega⟩
    obtain ⟨h1, h2⟩ := Ok.run xs hx.1
    refine ⟨h1, ?_⟩
    simp only [List.foldl_cons, List.length_cons]
    have := hx.2
    omega
theorem runA_ok {l : List (List Ins)} {wd : Int} {picks : List Int} (h : ((runA l wd picks).2 != 0) = false) : Ok l (runA l wd picks).1.1 (runA l wd picks).1.2.1 ∧ (runA l wd picks).1.2.2.1.length ≤ picks.length := by
  unfold runA at h ⊢
  split
  · rename_i hn
    obtain ⟨e, hall, h1, h2⟩ := newA_ok (l := l) (words := wd) (by simpa using hn)
    have := Ok.run picks (a := (newA l wd).1) (by rw [e]; exact Ok.new hall h1 h2)
    refine ⟨this.1, ?_⟩
    have h3 := this.2
    rw [e] at h3 ⊢
    simpa using h3
  · rename_i hn
    rw [if_neg hn] at h
    simp only [beq_iff_eq] at hn
    simp only [bne_eq_false_iff_eq] at h
    exact absurd h hn
theorem stepA_F {l : List (List Ins)} {a : Atom} (h : Ok l a.1 a.2.1) {n : Int} (h0 : 0 ≤ n) (h1 : n < a.2.1.length) : stepA l a n = (stepF l a n, 0) := stepA_ok (m := a.1) (c := a.2.1) (o := a.2.2.1) h h0 h1
end Go.Proofs.Ytgkjgpiggjjmpaa.Ev
