/- Lemmas for the claim: One thing changed in memory. (no condition.) -/
import Derived.Test.YtgkjgpiggjjmpaaEv2
/-! One thing changed in memory. -/
namespace Go.Proofs.Ytgkjgpiggjjmpaa.Ev
open Go
set_option linter.unusedVariables false

def Env.put (E : Env) (i : Nat) (r : Root) (l : Option Loc) (w' : World) : Env := { w := w', F := E.F, loc := fun j => if j = i then l else E.loc j, hp := E.hp.set i (.live r) }
def Env.kill (E : Env) (i : Nat) (F : Nat → Prop) : Env := { E with F := F, hp := E.hp.set i .dead }
def Env.draw (E : Env) (w' : World) : Env := { E with w := w' }

/-- May a root follow another one? -/
def follows (l l' : Option Loc) : Option HC → Root → Prop
  | some .fresh, _ => True
  | some (.live (.box ls)), .box ls' => ls.map SV.size = ls'.map SV.size ∧ l' = l
  | some (.live (.row t xs ver)), .row t' xs' ver' => t' = t ∧ ver ≤ ver' ∧ (ver = ver' → xs.length ≤ xs'.length ∧ l' = l)
  | _, _ => False

theorem getElem?_set' {α : Type} (l : List α) (i j : Nat) (a : α) (h : i < l.length) : (l.set i a)[j]? = if j = i then some a else l[j]? := by
  by_cases e : j = i
  · subst e; simp [h]
  · rw [if_neg e, List.getElem?_set_ne (Ne.symm e)]

theorem RootR.le {E E' : Env} (h : Le E E') {id : Nat} {r : Root} (hl : E'.loc id = E.loc id) (hb : ∀ l, E.loc id = some l → E'.w.heap[l.b]? = E.w.heap[l.b]?) (hr : RootR E id r) : RootR E' id r := by
  cases r with
  | box ls =>
    obtain ⟨l, ty, cells, h1, h2, h3⟩ := hr
    exact ⟨l, ty, cells, hl.trans h1, (hb l h1).trans h2, h3.imp fun _ _ h' => h'.le h⟩
  | row t xs ver =>
    simp only [RootR] at hr ⊢
    rw [hl]
    cases e : E.loc id with
    | none => rw [e] at hr; exact hr
    | some l =>
      rw [e] at hr
      obtain ⟨ty, cells, h2, h3, h4, h5⟩ := hr
      refine ⟨ty, cells, (hb l e).trans h2, h3, h4, fun i x hx => ?_⟩
      obtain ⟨ec, h6, h7⟩ := h5 i x hx
      exact ⟨ec, KC.move h.F h.Fw h6, h7.world (hb l e)⟩

section
variable {w0 : World} {S : Who} {E : Env}

theorem HR.Flive (h : HR w0 S E) {i : Nat} {r : Root} {l : Loc} (hi : E.hp[i]? = some (.live r)) (hl : E.loc i = some l) {b : Nat} (hb : E.F b) : b ≠ l.b := fun e => h.notF i r l hi hl (e ▸ hb)

theorem HR.put (h : HR w0 S E) (i : Nat) (r' : Root) (l' : Option Loc) (w' : World) (hi : ∃ c, E.hp[i]? = some c ∧ follows (E.loc i) l' (some c) r')
    (hw : ∀ b, (∀ l, l' = some l → b ≠ l.b) → b < E.w.heap.size → w'.heap[b]? = E.w.heap[b]?) (hsz : E.w.heap.size ≤ w'.heap.size)
    (hos : w'.os = E.w.os) (htape : w'.tape = E.w.tape) (hout : w'.output = E.w.output)
    (hl : ∀ l, l' = some l → l.b < w'.heap.size ∧ (E.w.heap.size ≤ l.b ∨ ∃ r l0, E.hp[i]? = some (.live r) ∧ E.loc i = some l0 ∧ l.b = l0.b)) :
    Le E (E.put i r' l' w') ∧ (RootR (E.put i r' l' w') i r' → HR w0 S (E.put i r' l' w')) := by
  obtain ⟨c, hc, hf⟩ := hi
  have hlen : i < E.hp.length := (List.getElem?_eq_some_iff.1 hc).1
  have hF : ∀ b, E.F b → w'.heap[b]? = E.w.heap[b]? := fun b hb => hw b (fun l e => by
    rcases (hl l e).2 with h1 | ⟨r, l0, h1, h2, h3⟩
    · have := h.Fin b hb; omega
    · rw [h3]; exact h.Flive h1 h2 hb) (h.Fin b hb)
  have hget : ∀ j : Nat, (E.put i r' l' w').hp[j]? = if j = i then some (.live r') else E.hp[j]? := fun j => getElem?_set' _ _ _ _ hlen
  have hloc : ∀ j, (E.put i r' l' w').loc j = if j = i then l' else E.loc j := fun j => rfl
  have le : Le E (E.put i r' l' w') := by
    refine ⟨fun b hb => hb, hF, fun id hn => ?_, fun id t xs' ver' hn hx => ?_, fun id ls' hn hx => ?_⟩
    · rw [hget] at hn
      by_cases e : id = i
      · rw [if_pos e] at hn; exact hn.elim
      · rwa [if_neg e] at hn
    · rw [hget] at hx
      by_cases e : id = i
      · subst e
        rw [if_pos rfl] at hx
        simp only [Option.some.injEq, HC.live.injEq] at hx
        subst hx
        rw [hc] at hn ⊢
        cases c with
        | fresh => exact absurd trivial hn
        | dead => exact hf.elim
        | live r =>
          cases r with
          | box ls => exact hf.elim
          | row t0 xs ver =>
            obtain ⟨e1, h2, h3⟩ := hf
            subst e1
            refine ⟨xs, ver, rfl, h2, fun e => ?_⟩
            obtain ⟨h4, h5⟩ := h3 e
            exact ⟨h4, by rw [hloc, if_pos rfl]; exact h5⟩
      · rw [if_neg e] at hx
        exact ⟨xs', ver', hx, Nat.le_refl _, fun _ => ⟨Nat.le_refl _, by rw [hloc, if_neg e]⟩⟩
    · rw [hget] at hx
      by_cases e : id = i
      · subst e
        rw [if_pos rfl] at hx
        simp only [Option.some.injEq, HC.live.injEq] at hx
        subst hx
        rw [hc] at hn ⊢
        cases c with
        | fresh => exact absurd trivial hn
        | dead => exact hf.elim
        | live r =>
          cases r with
          | row t0 xs ver => exact hf.elim
          | box ls => exact ⟨ls, rfl, hf.1, by rw [hloc, if_pos rfl]; exact hf.2⟩
      · rw [if_neg e] at hx
        exact ⟨ls', hx, rfl, by rw [hloc, if_neg e]⟩
  refine ⟨le, fun hr => ?_⟩
  have other : ∀ id r l, id ≠ i → E.hp[id]? = some (.live r) → E.loc id = some l → w'.heap[l.b]? = E.w.heap[l.b]? ∧ ∀ l2, l' = some l2 → l.b ≠ l2.b := by
    intro id r l hne hx hlo
    have hin := h.inside id r l hx hlo
    have hd : ∀ l2, l' = some l2 → l.b ≠ l2.b := fun l2 e => by
      rcases (hl l2 e).2 with h1 | ⟨r0, l0, h1, h2, h3⟩
      · omega
      · rw [h3]; exact fun e' => hne (h.inj id i r r0 l l0 hx h1 hlo h2 e')
    exact ⟨hw _ hd hin, hd⟩
  have bound : ∀ id r l, (E.put i r' l' w').hp[id]? = some (.live r) → (E.put i r' l' w').loc id = some l →
      (id = i ∧ l' = some l) ∨ (id ≠ i ∧ E.hp[id]? = some (.live r) ∧ E.loc id = some l) := by
    intro id r l hx hlo
    rw [hget] at hx
    rw [hloc] at hlo
    by_cases e : id = i
    · rw [if_pos e] at hlo; exact .inl ⟨e, hlo⟩
    · rw [if_neg e] at hx hlo; exact .inr ⟨e, hx, hlo⟩
  refine ⟨fun id r hx => ?_, fun a b ra rb la lb ha hb hla hlb e => ?_, fun id r l hx hlo hb => ?_, fun id r l hx hlo => ?_, fun id r l hx hlo => ?_, fun b hb => Nat.lt_of_lt_of_le (h.Fin b hb) hsz, h.Fold,
    fun b hb hS => ?_, Nat.le_trans h.size hsz, hos.trans h.os, htape.trans h.tape, hout.trans h.output⟩
  · rw [hget] at hx
    by_cases e : id = i
    · subst e
      rw [if_pos rfl] at hx
      simp only [Option.some.injEq, HC.live.injEq] at hx
      subst hx
      exact hr
    · rw [if_neg e] at hx
      refine RootR.le le (by rw [hloc, if_neg e]) (fun l hlo => (other id r l e hx hlo).1) (h.root id r hx)
  · rcases bound a ra la ha hla with ⟨e1, h1⟩ | ⟨e1, h1, h2⟩
    · rcases bound b rb lb hb hlb with ⟨e2, h3⟩ | ⟨e2, h3, h4⟩
      · omega
      · exact absurd e.symm ((other b rb lb e2 h3 h4).2 la h1)
    · rcases bound b rb lb hb hlb with ⟨e2, h3⟩ | ⟨e2, h3, h4⟩
      · exact absurd e ((other a ra la e1 h1 h2).2 lb h3)
      · exact h.inj a b ra rb la lb h1 h3 h2 h4 e
  · rcases bound id r l hx hlo with ⟨e1, h1⟩ | ⟨e1, h1, h2⟩
    · rcases (hl l h1).2 with h3 | ⟨r0, l0, h3, h4, h5⟩
      · have := h.Fin l.b hb; omega
      · exact h.notF i r0 l0 h3 h4 (h5 ▸ hb)
    · exact h.notF id r l h1 h2 hb
  · rcases bound id r l hx hlo with ⟨e1, h1⟩ | ⟨e1, h1, h2⟩
    · rcases (hl l h1).2 with h3 | ⟨r0, l0, h3, h4, h5⟩
      · exact .inl (Nat.le_trans h.size h3)
      · rw [h5]; exact h.may i r0 l0 h3 h4
    · exact h.may id r l h1 h2
  · rcases bound id r l hx hlo with ⟨e1, h1⟩ | ⟨e1, h1, h2⟩
    · exact (hl l h1).1
    · exact Nat.lt_of_lt_of_le (h.inside id r l h1 h2) hsz
  · rw [← h.old b hb hS]
    refine hw b (fun l e eb => ?_) (Nat.lt_of_lt_of_le hb h.size)
    rcases (hl l e).2 with h3 | ⟨r0, l0, h3, h4, h5⟩
    · have := h.size; omega
    · rcases h.may i r0 l0 h3 h4 with h6 | h6
      · omega
      · exact hS (by rw [eb, h5]; exact h6)

/-- A draw. -/
theorem HR.draw (h : HR w0 S E) (w' : World) (hh : w'.heap = E.w.heap) (hos : w'.os = E.w.os) (htape : w'.tape = E.w.tape) (hout : w'.output = E.w.output) : Le E (E.draw w') ∧ HR w0 S (E.draw w') := by
  have le : Le E (E.draw w') := ⟨fun _ h => h, fun b _ => by show w'.heap[b]? = _; rw [hh], fun _ h => h, fun _ _ xs ver _ h => ⟨xs, ver, h, Nat.le_refl _, fun _ => ⟨Nat.le_refl _, rfl⟩⟩, fun _ ls _ h => ⟨ls, h, rfl, rfl⟩⟩
  exact ⟨le, fun id r hx => RootR.le le rfl (fun l _ => by show w'.heap[_]? = _; rw [hh]) (h.root id r hx), h.inj, h.notF, h.may, fun i r l a b => by show _ < w'.heap.size; rw [hh]; exact h.inside i r l a b,
    fun b hb => by show _ < w'.heap.size; rw [hh]; exact h.Fin b hb, h.Fold, fun b hb hS => by show w'.heap[b]? = _; rw [hh]; exact h.old b hb hS, by show _ ≤ w'.heap.size; rw [hh]; exact h.size, hos.trans h.os, htape.trans h.tape, hout.trans h.output⟩

/-- What was owned is never written any more. -/
theorem HR.freeze (h : HR w0 S E) (i : Nat) (r : Root) (hi : E.hp[i]? = some (.live r)) : Le E (E.kill i fun b => E.F b ∨ ∃ l, E.loc i = some l ∧ b = l.b) ∧ HR w0 S (E.kill i fun b => E.F b ∨ ∃ l, E.loc i = some l ∧ b = l.b) := by
  have hlen : i < E.hp.length := (List.getElem?_eq_some_iff.1 hi).1
  have hget : ∀ (F : Nat → Prop) (j : Nat), (E.kill i F).hp[j]? = if j = i then some .dead else E.hp[j]? := fun _ j => getElem?_set' _ _ _ _ hlen
  have le : Le E (E.kill i fun b => E.F b ∨ ∃ l, E.loc i = some l ∧ b = l.b) := by
    refine ⟨fun b hb => .inl hb, fun _ _ => rfl, fun id hn => ?_, fun id t xs' ver' hn hx => ?_, fun id ls' hn hx => ?_⟩
    · rw [hget] at hn
      by_cases e : id = i
      · rw [if_pos e] at hn; exact hn.elim
      · rwa [if_neg e] at hn
    · rw [hget] at hx
      by_cases e : id = i
      · rw [if_pos e] at hx; simp at hx
      · rw [if_neg e] at hx; exact ⟨xs', ver', hx, Nat.le_refl _, fun _ => ⟨Nat.le_refl _, rfl⟩⟩
    · rw [hget] at hx
      by_cases e : id = i
      · rw [if_pos e] at hx; simp at hx
      · rw [if_neg e] at hx; exact ⟨ls', hx, rfl, rfl⟩
  have back : ∀ id r0, (E.kill i fun b => E.F b ∨ ∃ l, E.loc i = some l ∧ b = l.b).hp[id]? = some (.live r0) → id ≠ i ∧ E.hp[id]? = some (.live r0) := by
    intro id r0 hx
    rw [hget] at hx
    by_cases e : id = i
    · rw [if_pos e] at hx; simp at hx
    · rw [if_neg e] at hx; exact ⟨e, hx⟩
  refine ⟨le, fun id r0 hx => RootR.le le rfl (fun _ _ => rfl) (h.root id r0 (back id r0 hx).2), fun a b ra rb la lb ha hb => h.inj a b ra rb la lb (back _ _ ha).2 (back _ _ hb).2, fun id r0 l hx hlo hb => ?_,
    fun id r0 l hx => h.may id r0 l (back _ _ hx).2, fun id r0 l hx => h.inside id r0 l (back _ _ hx).2, fun b hb => ?_, fun b hb hlt => ?_, h.old, h.size, h.os, h.tape, h.output⟩
  · obtain ⟨hne, hx⟩ := back _ _ hx
    rcases hb with hb | ⟨l0, h1, h2⟩
    · exact h.notF id r0 l hx hlo hb
    · exact hne (h.inj id i r0 r l l0 hx hi hlo h1 h2)
  · rcases hb with hb | ⟨l0, h1, h2⟩
    · exact h.Fin b hb
    · rw [h2]; exact h.inside i r l0 hi h1
  · rcases hb with hb | ⟨l0, h1, h2⟩
    · exact h.Fold b hb hlt
    · rcases h.may i r l0 hi h1 with h3 | h3
      · omega
      · rw [h2]; exact S.wg _ h3
end

end Go.Proofs.Ytgkjgpiggjjmpaa.Ev
