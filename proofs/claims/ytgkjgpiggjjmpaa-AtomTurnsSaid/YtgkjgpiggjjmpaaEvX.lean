/- Lemmas for the claim: A walk cut in two: many roads, one state behind them. (no condition.) -/
import Derived.Test.YtgkjgpiggjjmpaaEvR
/-! A walk cut in two: many roads, one state behind them. -/
namespace Go.Proofs.Ytgkjgpiggjjmpaa.Ev
open Go
set_option linter.unusedVariables false
variable {P : Program}

def cutC (c : Code) : Code := c
def wrapN : Nat → Code → Code
  | 0, c => cutC c
  | n + 1, .seq a b => .seq a (wrapN n b)
  | _, c => c
theorem wrapN_eq : ∀ (n : Nat) (c : Code), wrapN n c = c
  | 0, _ => rfl
  | n + 1, c => by cases c <;> simp [wrapN, wrapN_eq n]
theorem wrapN_zero (c : Code) : wrapN 0 c = cutC c := rfl
theorem wrapN_succ (n : Nat) (a b : Code) : wrapN (n + 1) (.seq a b) = .seq a (wrapN n b) := rfl
theorem evC_wrap {X : Tbl P} {M : Mode P} {D : DrawP P} {n : Nat} {c : Code} {st : St} {K : Ex → St → Prop} (k : Nat) (h : evC X M D n (wrapN k c) st K) : evC X M D n c st K := by rwa [wrapN_eq] at h
theorem evC_uncut {X : Tbl P} {M : Mode P} {D : DrawP P} {n : Nat} {c : Code} {st : St} {K : Ex → St → Prop} (h : evC X M D n c st K) : evC X M D n (cutC c) st K := h
theorem evC_mid {X : Tbl P} {M : Mode P} {D : DrawP P} {n : Nat} {a b : Code} {st : St} {K : Ex → St → Prop} {α : Type} (S : α → St) (Q : α → Prop)
    (h1 : ∀ G : St → Prop, (∀ x, Q x → G (S x)) → evC X M D n a st fun e s => match e with
      | .normal => G s
      | .exit id => K (.exit id) s
      | .ret => K .ret s) (h2 : ∀ x, Q x → evC X M D n (cutC b) (S x) K) : evC X M D n (cutC (.seq a b)) st K :=
  h1 (fun s => evC X M D n (cutC b) s K) h2
def AllP (Q : Nat × AV → Prop) : List (Nat × AV) → Prop
  | [] => True
  | p :: l => Q p ∧ AllP Q l
theorem look_app {d : AV} {l : List (Nat × AV)} : ∀ {bs : List (Nat × AV)} {ts : List Nat}, AllP (fun p => lookA d l p.1 = p.2) bs → ∀ i, lookA d (bs ++ ts.map fun t => (t, lookA d l t)) i = if (bs.map (·.1)).contains i || ts.contains i then lookA d l i else d
  | [], [], _, i => rfl
  | [], t :: ts, h, i => by
    have := look_app (d := d) (l := l) (bs := []) (ts := ts) h i
    simp only [List.nil_append, List.map_nil, List.map_cons, lookA, List.contains_nil, Bool.false_or, List.contains_cons] at this ⊢
    by_cases e : t = i
    · subst e; simp
    · have e' : (i == t) = false := by simpa using Ne.symm e
      rw [if_neg e, this, e', Bool.false_or]
  | (k, v) :: bs, ts, h, i => by
    have := look_app (d := d) (l := l) (bs := bs) (ts := ts) h.2 i
    simp only [List.cons_append, List.map_cons, lookA, List.contains_cons] at this ⊢
    by_cases e : k = i
    · subst e; have h1 : lookA d l k = v := h.1; rw [if_pos rfl, ← h1]; simp
    · have e' : (i == k) = false := by simpa using Ne.symm e
      rw [if_neg e, this, e', Bool.false_or]
theorem look_none {d : AV} : ∀ {l : List (Nat × AV)} {i : Nat}, (l.map (·.1)).contains i = false → lookA d l i = d
  | [], _, _ => rfl
  | (k, v) :: l, i, h => by
    simp only [List.map_cons, List.contains_cons, Bool.or_eq_false_iff] at h
    rw [lookA, if_neg (fun e => by subst e; simp at h), look_none h.2]
/-- Of a state: what is known of some slots; the rest as it may be. -/
theorem mid_eq {d : AV} {n : Nat} {l : List (Nat × AV)} {hp : List HC} {bs : List (Nat × AV)} {ts : List Nat} (hk : ((l.map (·.1)).all fun k => (bs.map (·.1)).contains k || ts.contains k) = true)
    (hb : AllP (fun p => lookA d l p.1 = p.2) bs) : (⟨mkS d n l, hp⟩ : St) = ⟨mkS d n (bs ++ ts.map fun t => (t, lookA d l t)), hp⟩ := by
  congr 1
  apply List.ext_getElem?
  intro i
  rw [mkS_get, mkS_get, look_app hb]
  split
  · split
    · rfl
    · rename_i h
      rw [look_none]
      refine Bool.eq_false_iff.2 fun hc => h ?_
      exact List.all_eq_true.1 hk i (by simpa using hc)
  · rfl
theorem mid_go {d : AV} {n : Nat} {l : List (Nat × AV)} {hp : List HC} {bs : List (Nat × AV)} {ts : List Nat} {G : St → Prop} {q : Prop} (hG : ∀ x : Nat → AV, q → G ⟨mkS d n (bs ++ ts.map fun t => (t, x t)), hp⟩)
    (hk : ((l.map (·.1)).all fun k => (bs.map (·.1)).contains k || ts.contains k) = true) (hb : AllP (fun p => lookA d l p.1 = p.2) bs) (hq : q) : G ⟨mkS d n l, hp⟩ := by
  rw [mid_eq hk hb]
  exact hG _ hq
end Go.Proofs.Ytgkjgpiggjjmpaa.Ev
