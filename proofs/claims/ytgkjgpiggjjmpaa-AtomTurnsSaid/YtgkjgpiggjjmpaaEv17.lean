/- Lemmas for the claim: Code; a function's text. (no condition.) -/
import Derived.Test.YtgkjgpiggjjmpaaEv16
import Derived.Deep.LoopGhost
/-! Code; a function's text. -/
namespace Go.Proofs.Ytgkjgpiggjjmpaa.Ev
open Go
set_option linter.unusedVariables false

inductive Ex where
  | normal
  | exit (id : Nat)
  | ret

/-- What a region that draws its order must show besides (Ev18). -/
abbrev DrawP (P : Program) := Array Oper → St → (St → Prop) → Prop

def evC {P : Program} (X : Tbl P) (M : Mode P) (D : DrawP P) (n : Nat) : Code → St → (Ex → St → Prop) → Prop
  | .skip, st, K => K .normal st
  | .label _, st, K => K .normal st
  | .region _ ops draw, st, K => match draw with
    | true => D ops ⟨st.tm, st.hp ++ List.replicate (countAl ops.toList) .fresh⟩ (K .normal)
    | false => evOps X M ops.toList ops.toList st.hp.length ⟨st.tm, st.hp ++ List.replicate (countAl ops.toList) .fresh⟩ (K .normal)
  | .seq a b, st, K => evC X M D n a st fun e s => match e with
    | .normal => evC X M D n b s K
    | .exit id => K (.exit id) s
    | .ret => K .ret s
  | .cond c a b, st, K => match (opd X 0 st.tm c).cv.sv with
    | .c .bool x => (match x with
      | true => evC X M D n a st K
      | false => evC X M D n b st K)
    | _ => False
  | .block id b, st, K => evC X M D n b st fun e s => match e with
    | .normal => K .normal s
    | .exit i => if i = id then K .normal s else K (.exit i) s
    | .ret => K .ret s
  | .loop b, st, K => ∃ (I : Nat → St → Prop) (k : Nat), (∃ s1, Weak n st s1 ∧ I k s1) ∧ ∀ k s, I k s → evC X M D n b s fun e s' => match e with
    | .normal => ∃ s1 k', Weak n s' s1 ∧ I k' s1 ∧ k' < k
    | .exit id => K (.exit id) s'
    | .ret => K .ret s'
  | .exit id, st, K => K (.exit id) st
  | .ret, st, K => K .ret st
  | _, _, _ => False

section
variable {P : Program} {X : Tbl P} {M : Mode P} {D : DrawP P} {w0 : World} {S : Who} {E0 : Env} {n : Nat}

def lift (w0 : World) (S : Who) (E0 : Env) (n : Nat) (K : Ex → St → Prop) : Exit → Act → World → Prop
  | .normal, a, w => ∃ st, K .normal st ∧ Rel w0 S E0 n st a w
  | .exit id, a, w => ∃ st, K (.exit id) st ∧ Rel w0 S E0 n st a w
  | .ret, a, w => ∃ st, K .ret st ∧ Rel w0 S E0 n st a w
  | _, _, _ => False

theorem Rel.weak {st st' : St} {a : Act} {w : World} (h : Rel w0 S E0 n st a w) (k : Weak n st st') : Rel w0 S E0 n st' a w := by
  obtain ⟨E, h1, h2, h3, h4, h5, h6⟩ := h
  obtain ⟨E', e1, e2, e3, e4, e5⟩ := k w0 S E0 E a.tmps h3 h2 h4 h5
  exact ⟨E', e1.trans h1, e2, e3, e4, e5, h6⟩

def DrawOk (P : Program) (D : DrawP P) : Prop := ∀ (w0 : World) (S : Who) (E0 : Env) (n id : Nat) (ops : Array Oper) (st : St) (K : St → Prop) (Q : Exit → Act → World → Prop) (a : Act) (w : World),
  D ops st K → Rel w0 S E0 n st a w → (∀ st a w, K st → Rel w0 S E0 n st a w → Q .normal a w) → (Code.region id ops true).wp P Q a w

theorem evC_ok (hM : ModeOk P M) (hD : DrawOk P D) : ∀ (c : Code) (st : St) (K : Ex → St → Prop) (Q : Exit → Act → World → Prop) (a : Act) (w : World), evC X M D n c st K → Rel w0 S E0 n st a w →
    (∀ e a w, lift w0 S E0 n K e a w → Q e a w) → c.wp P Q a w
  | .skip, st, K, Q, a, w, h, hr, hQ => wp_skip (hQ .normal a w ⟨st, h, hr⟩)
  | .label l, st, K, Q, a, w, h, hr, hQ => wp_label (hQ .normal a w ⟨st, h, hr⟩)
  | .region id ops false, st, K, Q, a, w, h, hr, hQ => by
    refine wp_region ?_
    have := evOps_ok hM ops (Q := Q) (K := K .normal) (fun st a w hk hr => hQ .normal a w ⟨st, hk, hr⟩) ops.toList 0 st.hp.length _ a w rfl (hr.fresh (countAl ops.toList)) h
    rwa [Array.length_toList, ← List.range_eq_range'] at this
  | .region id ops true, st, K, Q, a, w, h, hr, hQ => hD w0 S E0 n id ops _ (K .normal) Q a w h (hr.fresh (countAl ops.toList)) (fun st a w hk hr => hQ .normal a w ⟨st, hk, hr⟩)
  | .seq x y, st, K, Q, a, w, h, hr, hQ => by
    refine wp_seq (evC_ok hM hD x st _ _ a w h hr fun e a w hl => ?_)
    cases e with
    | normal => obtain ⟨st', hk, hr'⟩ := hl; exact evC_ok hM hD y st' K Q a w hk hr' hQ
    | exit id => obtain ⟨st', hk, hr'⟩ := hl; exact hQ (.exit id) a w ⟨st', hk, hr'⟩
    | ret => obtain ⟨st', hk, hr'⟩ := hl; exact hQ .ret a w ⟨st', hk, hr'⟩
    | _ => exact hl.elim
  | .cond c x y, st, K, Q, a, w, h, hr, hQ => by
    simp only [evC] at h
    split at h
    · rename_i b hb
      have hc : a.eval c = .bool b := by
        obtain ⟨E, _, _, _, hT, _⟩ := hr
        have := sv_ok (cv_ok (opd_ok (X := X) hT 0 c))
        rw [hb] at this
        exact oneBool this
      cases b with
      | true => exact wp_cond_true hc (evC_ok hM hD x st K Q a w h hr hQ)
      | false => exact wp_cond_false hc (evC_ok hM hD y st K Q a w h hr hQ)
    · exact h.elim
  | .block id b, st, K, Q, a, w, h, hr, hQ => by
    refine wp_block (evC_ok hM hD b st _ _ a w h hr fun e a w hl => ?_)
    cases e with
    | normal => obtain ⟨st', hk, hr'⟩ := hl; exact hQ .normal a w ⟨st', hk, hr'⟩
    | exit i =>
      obtain ⟨st', hk, hr'⟩ := hl
      simp only [Exit.inBlock]
      simp only at hk
      split
      · rename_i e
        rw [if_pos e] at hk
        exact hQ .normal a w ⟨st', hk, hr'⟩
      · rename_i e
        rw [if_neg e] at hk
        exact hQ (.exit i) a w ⟨st', hk, hr'⟩
    | ret => obtain ⟨st', hk, hr'⟩ := hl; exact hQ .ret a w ⟨st', hk, hr'⟩
    | _ => exact hl.elim
  | .loop b, st, K, Q, a, w, h, hr, hQ => by
    obtain ⟨I, k0, ⟨s1, hw, hI⟩, hround⟩ := h
    refine wp_loop_ghost (fun k a w => ∃ s, I k s ∧ Rel w0 S E0 n s a w) k0 ⟨s1, hI, hr.weak hw⟩ ?_
    rintro k a w ⟨s, hIs, hrs⟩
    refine evC_ok hM hD b s _ _ a w (hround k s hIs) hrs fun e a w hl => ?_
    cases e with
    | normal =>
      obtain ⟨st', ⟨s2, k', hw2, hI2, hlt⟩, hr'⟩ := hl
      exact ⟨k', hlt, s2, hI2, hr'.weak hw2⟩
    | exit id => obtain ⟨st', hk, hr'⟩ := hl; exact hQ (.exit id) a w ⟨st', hk, hr'⟩
    | ret => obtain ⟨st', hk, hr'⟩ := hl; exact hQ .ret a w ⟨st', hk, hr'⟩
    | _ => exact hl.elim
  | .rangeFunc _ _ _ _, st, K, Q, a, w, h, hr, hQ => h.elim
  | .exit id, st, K, Q, a, w, h, hr, hQ => wp_exit (hQ (.exit id) a w ⟨st, h, hr⟩)
  | .scope b, st, K, Q, a, w, h, hr, hQ => h.elim
  | .goto l, st, K, Q, a, w, h, hr, hQ => h.elim
  | .ret, st, K, Q, a, w, h, hr, hQ => wp_ret (hQ .ret a w ⟨st, h, hr⟩)
  | .refuse _, st, K, Q, a, w, h, hr, hQ => h.elim
end
end Go.Proofs.Ytgkjgpiggjjmpaa.Ev
