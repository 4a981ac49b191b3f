/- Lemmas for the claim: Nil slices as rows of one's own; what is handed back to be owned. (no condition.) -/
import Derived.Test.YtgkjgpiggjjmpaaEvN
/-! Nil slices as rows of one's own; what is handed back to be owned. -/
namespace Go.Proofs.Ytgkjgpiggjjmpaa.Ev
open Go
set_option linter.unusedVariables false

def nlSVs : List SV → List HC → List SV × List HC
  | [], hp => ([], hp)
  | .nl t :: l, hp => (.ref hp.length 0 t 0 0 :: (nlSVs l (hp ++ [.live (.row t [] 0)])).1, (nlSVs l (hp ++ [.live (.row t [] 0)])).2)
  | a :: l, hp => (a :: (nlSVs l hp).1, (nlSVs l hp).2)
def nlCV : CV → List HC → CV × List HC
  | .one (.nl t), hp => (.one (.ref hp.length 0 t 0 0), hp ++ [.live (.row t [] 0)])
  | .agg l, hp => (.agg (nlSVs l hp).1, (nlSVs l hp).2)
  | a, hp => (a, hp)
def nlCVs : List CV → List HC → List CV × List HC
  | [], hp => ([], hp)
  | a :: l, hp => ((nlCV a hp).1 :: (nlCVs l (nlCV a hp).2).1, (nlCVs l (nlCV a hp).2).2)

def Env.nl (E : Env) (t : Ty) : Env := { w := E.w, F := E.F, loc := fun j => if j = E.hp.length then none else E.loc j, hp := E.hp ++ [.live (.row t [] 0)] }

section
variable {P : Program} {w0 : World} {S : Who} {E : Env} {n : Nat}

theorem nl_hp (E : Env) (t : Ty) (id : Nat) : (id = E.hp.length ∧ (E.nl t).hp[id]? = some (.live (.row t [] 0)) ∧ (E.nl t).loc id = none ∧ E.hp[id]? = none) ∨ (id ≠ E.hp.length ∧ (E.nl t).hp[id]? = E.hp[id]? ∧ (E.nl t).loc id = E.loc id) := by
  by_cases e : id = E.hp.length
  · subst e
    exact .inl ⟨rfl, by simp [Env.nl], by simp [Env.nl], by simp⟩
  · refine .inr ⟨e, ?_, by simp [Env.nl, e]⟩
    show (E.hp ++ [_])[id]? = _
    rcases Nat.lt_or_ge id E.hp.length with h | h
    · rw [List.getElem?_append_left h]
    · rw [List.getElem?_append_right h, List.getElem?_eq_none h, List.getElem?_eq_none (by simp; omega)]

theorem nl_ok {E : Env} (h : HR w0 S E) (t : Ty) : HR w0 S (E.nl t) ∧ Le E (E.nl t) ∧ SVR (E.nl t) (.ref E.hp.length 0 t 0 0) (.slice none 0 0) := by
  have le : Le E (E.nl t) := by
    refine ⟨fun _ h => h, fun _ _ => rfl, fun id hn => ?_, fun id t' xs ver hn hx => ?_, fun id ls hn hx => ?_⟩
    · rcases nl_hp E t id with ⟨_, e, _, e2⟩ | ⟨_, e, _⟩
      · rw [e2]; trivial
      · rw [← e]; exact hn
    · rcases nl_hp E t id with ⟨_, e, _, e2⟩ | ⟨_, e, e3⟩
      · rw [e2] at hn; exact absurd trivial hn
      · exact ⟨xs, ver, by rw [← e]; exact hx, Nat.le_refl _, fun _ => ⟨Nat.le_refl _, e3⟩⟩
    · rcases nl_hp E t id with ⟨_, e, _, e2⟩ | ⟨_, e, e3⟩
      · rw [e2] at hn; exact absurd trivial hn
      · exact ⟨ls, by rw [← e]; exact hx, rfl, e3⟩
  have old : ∀ id r l, (E.nl t).hp[id]? = some (.live r) → (E.nl t).loc id = some l → E.hp[id]? = some (.live r) ∧ E.loc id = some l := fun id r l hx hl => by
    rcases nl_hp E t id with ⟨_, e, e2, _⟩ | ⟨_, e, e3⟩
    · rw [e2] at hl; cases hl
    · exact ⟨by rw [← e]; exact hx, by rw [← e3]; exact hl⟩
  refine ⟨⟨fun id r hx => ?_, fun i j ri rj li lj hi hj hli hlj e => ?_, fun i r l hx hl => ?_, fun i r l hx hl => ?_, fun i r l hx hl => ?_, h.Fin, h.Fold, h.old, h.size, h.os, h.tape, h.output⟩, le, ?_⟩
  · rcases nl_hp E t id with ⟨_, e, e2, _⟩ | ⟨_, e, e3⟩
    · rw [e] at hx
      simp only [Option.some.injEq, HC.live.injEq] at hx
      subst hx
      simp only [RootR, e2]
    · rw [e] at hx
      exact RootR.le le e3 (fun _ _ => rfl) (h.root id r hx)
  · obtain ⟨a, b⟩ := old i ri li hi hli
    obtain ⟨c, d⟩ := old j rj lj hj hlj
    exact h.inj i j ri rj li lj a c b d e
  · obtain ⟨a, b⟩ := old i r l hx hl
    exact h.notF i r l a b
  · obtain ⟨a, b⟩ := old i r l hx hl
    exact h.may i r l a b
  · obtain ⟨a, b⟩ := old i r l hx hl
    exact h.inside i r l a b
  · rcases nl_hp E t E.hp.length with ⟨_, e, e2, _⟩ | ⟨e, _⟩
    · refine ⟨by rw [e]; exact fun h => h, fun xs ver' hx => ?_⟩
      rw [e] at hx
      simp only [Option.some.injEq, HC.live.injEq, Root.row.injEq, true_and] at hx
      obtain ⟨hx1, rfl⟩ := hx
      have := eq_of_heq hx1
      subst this
      exact ⟨Nat.le_refl _, fun _ => ⟨Nat.le_refl _, by rw [e2]⟩⟩
    · exact absurd rfl e

theorem nlSVs_ok : ∀ {l : List SV} {E : Env} {cs : List Value}, HR w0 S E → Segs (SVC E) l cs → ∃ E', E'.w = E.w ∧ E'.hp = (nlSVs l E.hp).2 ∧ HR w0 S E' ∧ Le E E' ∧ Segs (SVC E') (nlSVs l E.hp).1 cs
  | [], E, cs, h, hs => ⟨E, rfl, rfl, h, Le.refl E, hs⟩
  | a :: l, E, _, h, ⟨c1, c2, e, h1, h2⟩ => by
    cases a with
    | nl t =>
      obtain ⟨g1, g2, g3⟩ := nl_ok h t
      obtain ⟨E', e1, e2, e3, e4, e5⟩ := nlSVs_ok (l := l) g1 (h2.imp fun _ _ h' => h'.le g2)
      obtain ⟨v, ev, hv⟩ := h1
      have hv : v = .slice none 0 0 := hv
      subst hv
      exact ⟨E', e1, e2, e3, g2.trans e4, c1, c2, e, ⟨_, ev, g3.le e4⟩, e5⟩
    | _ =>
      obtain ⟨E', e1, e2, e3, e4, e5⟩ := nlSVs_ok (l := l) h h2
      exact ⟨E', e1, e2, e3, e4, c1, c2, e, h1.le e4, e5⟩

theorem nlCV_ok {a : CV} {E : Env} {v : Value} (h : HR w0 S E) (hv : CVR E a v) : ∃ E', E'.w = E.w ∧ E'.hp = (nlCV a E.hp).2 ∧ HR w0 S E' ∧ Le E E' ∧ CVR E' (nlCV a E.hp).1 v := by
  cases a with
  | one s =>
    cases s with
    | nl t =>
      obtain ⟨g1, g2, g3⟩ := nl_ok h t
      have hv : v = .slice none 0 0 := hv
      subst hv
      exact ⟨E.nl t, rfl, rfl, g1, g2, g3⟩
    | _ => exact ⟨E, rfl, rfl, h, Le.refl E, hv⟩
  | agg l =>
    obtain ⟨cs, hs, e⟩ := hv
    obtain ⟨E', e1, e2, e3, e4, e5⟩ := nlSVs_ok h hs
    exact ⟨E', e1, e2, e3, e4, cs, e5, e⟩
  | fn f caps => exact ⟨E, rfl, rfl, h, Le.refl E, hv⟩

theorem nlCVs_len : ∀ (l : List CV) (hp : List HC), (nlCVs l hp).1.length = l.length
  | [], _ => rfl
  | a :: l, hp => by simp [nlCVs, nlCVs_len l]

theorem nlCVs_ok : ∀ {l : List CV} {E : Env} {vs : List Value}, HR w0 S E → Segs (fun a cs => ∃ v, cs = [v] ∧ CVR E a v) l vs → ∃ E', E'.w = E.w ∧ E'.hp = (nlCVs l E.hp).2 ∧ HR w0 S E' ∧ Le E E' ∧ Segs (fun a cs => ∃ v, cs = [v] ∧ CVR E' a v) (nlCVs l E.hp).1 vs
  | [], E, cs, h, hs => ⟨E, rfl, rfl, h, Le.refl E, hs⟩
  | a :: l, E, _, h, ⟨c1, c2, e, ⟨v, ev, h1⟩, h2⟩ => by
    obtain ⟨E1, a1, a2, a3, a4, a5⟩ := nlCV_ok h h1
    obtain ⟨E', e1, e2, e3, e4, e5⟩ := nlCVs_ok (l := l) a3 (h2.imp fun _ _ ⟨v, e, h'⟩ => ⟨v, e, h'.le a4⟩)
    rw [a2] at e2 e5
    exact ⟨E', e1.trans a1, e2, e3, a4.trans e4, c1, c2, e, ⟨v, ev, a5.le e4⟩, e5⟩

theorem Weak.nl {l : List CV} {hp : List HC} : Weak n ⟨[resAV l], hp⟩ ⟨[resAV (nlCVs l hp).1], (nlCVs l hp).2⟩ := by
  intro w0 S E0 E tmps h1 h2 h3 h4
  subst h2
  obtain ⟨vs, g1, g2⟩ := resAV_ok (h3.2 0)
  obtain ⟨E', e1, e2, e3, e4, e5⟩ := nlCVs_ok h1 g1
  refine ⟨E', e1, e2, e3, ⟨h3.1, fun t => ?_⟩, h4.trans (e4.n n)⟩
  cases t with
  | zero => exact g2 E' _ (nlCVs_len _ _) e5
  | succ t => trivial

/-- What is handed back to be owned: rows of one's own, in order. -/
theorem fin_own {l : List CV} {hp : List HC} {K : AV → List HC → Prop} (olds : List Nat) {v : AV} {hs : List HC} (hk : keeps n olds (nlCVs l hp).2 = true)
    (e : trim n [0] olds ⟨[resAV (nlCVs l hp).1], (nlCVs l hp).2⟩ = ⟨[v], hs⟩) (h : K v hs) : ∃ r' h', Weak n ⟨[resAV l], hp⟩ ⟨[r'], h'⟩ ∧ K r' h' := by
  refine ⟨v, hs, ?_, h⟩
  have := (Weak.nl (n := n) (l := l) (hp := hp)).trans (Weak.trim (keep := [0]) hk)
  rwa [e] at this
theorem finG_trim {l : List CV} {hp : List HC} {K : AV → List HC → Prop} (olds : List Nat) {v : AV} {hs : List HC} (hk : keeps n olds hp = true)
    (e : trim n [0] olds ⟨[resAV l], hp⟩ = ⟨[v], hs⟩) (h : K v hs) : finG n hp K (some l) := by
  refine ⟨v, hs, ?_, h⟩
  have := Weak.trim (n := n) (st := ⟨[resAV l], hp⟩) (keep := [0]) hk
  rwa [e] at this
theorem ACall.normL {k : Nat} (l1 l2 : List CV) {b : CV} {t : Ty} {x : t.D} {hp : List HC} {K : AV → List HC → Prop} (hx : toT t b = some x) (h : ACall P k (l1 ++ .one (.c t x) :: l2) hp K) : ACall P k (l1 ++ b :: l2) hp K := by
  refine h.args fun E vs hs => ?_
  obtain ⟨c1, c2, e, h1, c3, c4, e2, ⟨v, ev, hv⟩, h2⟩ := hs.split
  subst e e2 ev
  exact h1.append ⟨_, _, rfl, ⟨v, rfl, toT_kc hx hv⟩, h2⟩
/-- What is handed back as it stands; memory as it stands. -/
theorem fin_same {l : List CV} {hp : List HC} {K : AV → List HC → Prop} (h : K (resAV l) hp) : ∃ r' h', Weak n ⟨[resAV l], hp⟩ ⟨[r'], h'⟩ ∧ K r' h' := ⟨_, _, Weak.refl _ _, h⟩
/-- Nothing is kept but what was there. -/
theorem fin_trim {l : List CV} {hp : List HC} {K : AV → List HC → Prop} (olds : List Nat) {v : AV} {hs : List HC} (hk : keeps n olds hp = true)
    (e : trim n [0] olds ⟨[resAV l], hp⟩ = ⟨[v], hs⟩) (h : K v hs) : ∃ r' h', Weak n ⟨[resAV l], hp⟩ ⟨[r'], h'⟩ ∧ K r' h' := by
  refine ⟨v, hs, ?_, h⟩
  have := Weak.trim (n := n) (st := ⟨[resAV l], hp⟩) (keep := [0]) hk
  rwa [e] at this
end
end Go.Proofs.Ytgkjgpiggjjmpaa.Ev
