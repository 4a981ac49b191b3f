/- Lemmas for the claim: Calls that are lent some of their caller's memory. (no condition.) -/
import Derived.Test.YtgkjgpiggjjmpaaEv22
/-! Calls that are lent some of their caller's memory. -/
namespace Go.Proofs.Ytgkjgpiggjjmpaa.Ev
open Go
set_option linter.unusedVariables false

def setAll : List Nat → List HC → List HC → List HC
  | id :: ids, c :: cs, hp => setAll ids cs (hp.set id c)
  | _, _, hp => hp
/-- Where the callee's things are the caller's. -/
def sig (ids : List Nat) (n : Nat) (j : Nat) : Option Nat := some (if j < ids.length then ids.getD j 0 else n + (j - ids.length))

def lendHp (ids : List Nat) (hp : List HC) : List HC := ids.map fun id => renHC (idx ids) (hp.getD id .dead)
def backHp (ids : List Nat) (hp h : List HC) : List HC := setAll ids (h.map (renHC (sig ids hp.length))) hp ++ (h.drop ids.length).map (renHC (sig ids hp.length))

def isLiveAt (hp : List HC) (id : Nat) : Bool := match hp[id]? with
  | some (.live _) => true
  | _ => false

theorem setAll_len : ∀ (ids : List Nat) (cs hp : List HC), (setAll ids cs hp).length = hp.length
  | [], cs, hp => by simp [setAll]
  | id :: ids, [], hp => by simp [setAll]
  | id :: ids, c :: cs, hp => by simp [setAll, setAll_len ids cs]
theorem setAll_out : ∀ (ids : List Nat) (cs hp : List HC) (x : Nat), x ∉ ids → (setAll ids cs hp)[x]? = hp[x]?
  | [], cs, hp, x, h => by simp [setAll]
  | id :: ids, [], hp, x, h => by simp [setAll]
  | id :: ids, c :: cs, hp, x, h => by
    simp only [setAll]
    rw [setAll_out ids cs _ x (fun h' => h (.tail _ h')), List.getElem?_set_ne (fun e => h (by rw [e]; exact .head _))]
theorem setAll_in : ∀ (ids : List Nat) (cs hp : List HC) (j x : Nat), noDup ids = true → ids[j]? = some x → j < cs.length → x < hp.length → (setAll ids cs hp)[x]? = cs[j]?
  | id :: ids, [], hp, j, x, hn, hj, hl, hx => by simp at hl
  | id :: ids, c :: cs, hp, 0, x, hn, hj, hl, hx => by
    simp only [List.getElem?_cons_zero, Option.some.injEq] at hj
    subst hj
    simp only [noDup, Bool.and_eq_true] at hn
    simp only [setAll, List.getElem?_cons_zero]
    rw [setAll_out ids cs _ id (fun h => by have := List.all_eq_true.1 hn.1 id h; simp at this)]
    simp [hx]
  | id :: ids, c :: cs, hp, j + 1, x, hn, hj, hl, hx => by
    simp only [noDup, Bool.and_eq_true] at hn
    simp only [setAll, List.getElem?_cons_succ]
    exact setAll_in ids cs _ j x hn.2 (by simpa using hj) (by simpa using hl) (by simpa using hx)

theorem idx_none : ∀ {l : List Nat} {x : Nat}, idx l x = none → x ∉ l
  | [], x, _ => by simp
  | a :: l, x, h => by
    simp only [idx] at h
    split at h
    · cases h
    · rename_i hne
      simp only [Option.map_eq_none_iff] at h
      intro hm
      rcases List.mem_cons.1 hm with e | hm
      · exact hne e.symm
      · exact idx_none h hm
theorem idx_mem {l : List Nat} {x k : Nat} (h : idx l x = some k) : x ∈ l := List.mem_of_getElem? (idx_some h)
theorem idx_lt {l : List Nat} {x k : Nat} (h : idx l x = some k) : k < l.length := (List.getElem?_eq_some_iff.1 (idx_some h)).1

section
variable {P : Program} {w0 : World} {S : Who} {E E1 : Env} {ids : List Nat}

def Env.lend (E : Env) (ids : List Nat) : Env := { w := E.w, F := E.F, loc := fun j => (ids[j]?).bind E.loc, hp := lendHp ids E.hp }
def lent (E : Env) (ids : List Nat) (b : Nat) : Prop := ∃ id ∈ ids, ∃ r l, E.hp[id]? = some (.live r) ∧ E.loc id = some l ∧ b = l.b
def lendWho (E : Env) (ids : List Nat) : Who := ⟨lent E ids, fun b => E.F b ∨ lent E ids b, fun _ h => .inr h⟩

theorem lend_get (E : Env) {j : Nat} : (E.lend ids).hp[j]? = (ids[j]?).map fun id => renHC (idx ids) (E.hp.getD id .dead) := by
  simp [Env.lend, lendHp]

theorem lend_ren (hlt : ∀ id ∈ ids, id < E.hp.length) : Ren E (E.lend ids) (idx ids) := by
  refine ⟨rfl, rfl, fun id j h => ?_⟩
  have hj := idx_some h
  refine ⟨?_, by simp [Env.lend, hj]⟩
  rw [lend_get, hj]
  have := hlt id (idx_mem h)
  simp only [Option.map_some, List.getD_eq_getElem?_getD, List.getElem?_eq_getElem this, Option.getD_some]

theorem lend_live {j : Nat} {r : Root} (h : (E.lend ids).hp[j]? = some (.live r)) : ∃ id r0, ids[j]? = some id ∧ E.hp[id]? = some (.live r0) ∧ renHC (idx ids) (.live r0) = .live r ∧ (E.lend ids).loc j = E.loc id := by
  rw [lend_get] at h
  cases hj : ids[j]? with
  | none => rw [hj] at h; cases h
  | some id =>
    rw [hj] at h
    simp only [Option.map_some, Option.some.injEq] at h
    rw [List.getD_eq_getElem?_getD] at h
    cases hx : E.hp[id]? with
    | none => rw [hx] at h; simp [renHC] at h
    | some c =>
      rw [hx] at h
      cases c with
      | live r0 => exact ⟨id, r0, rfl, hx, h, by simp [Env.lend, hj]⟩
      | _ => simp [renHC] at h

theorem lend_ok (h : HR w0 S E) (hnd : noDup ids = true) (hlt : ∀ id ∈ ids, id < E.hp.length) : HR E.w (lendWho E ids) (E.lend ids) := by
  refine ⟨fun j r hj => ?_, fun i j ri rj li lj hi hj hli hlj e => ?_, fun j r l hj hl => ?_, fun j r l hj hl => ?_, fun j r l hj hl => ?_, h.Fin, fun b hb _ => .inl hb, fun _ _ _ => rfl, Nat.le_refl _, rfl, rfl, rfl⟩
  · obtain ⟨id, r0, h1, h2, h3, h4⟩ := lend_live hj
    have hidx : idx ids id = some j := by
      cases hx : idx ids id with
      | none => exact absurd (List.mem_of_getElem? h1) (idx_none hx)
      | some k => rw [noDup_inj hnd k j id (idx_some hx) h1]
    exact RootR.ren (lend_ren hlt) hidx (h.root id r0 h2) h3
  · obtain ⟨a, ra, h1, h2, h3, h4⟩ := lend_live hi
    obtain ⟨b, rb, g1, g2, g3, g4⟩ := lend_live hj
    have := h.inj a b ra rb li lj h2 g2 (h4 ▸ hli) (g4 ▸ hlj) e
    subst this
    exact noDup_inj hnd i j a h1 g1
  · obtain ⟨a, ra, h1, h2, h3, h4⟩ := lend_live hj
    exact h.notF a ra l h2 (h4 ▸ hl)
  · obtain ⟨a, ra, h1, h2, h3, h4⟩ := lend_live hj
    exact .inr ⟨a, List.mem_of_getElem? h1, ra, l, h2, h4 ▸ hl, rfl⟩
  · obtain ⟨a, ra, h1, h2, h3, h4⟩ := lend_live hj
    exact h.inside a ra l h2 (h4 ▸ hl)

def Env.unlend (E E1 : Env) (ids : List Nat) : Env := { w := E1.w, F := E1.F, loc := fun id => match idx ids id with
    | some j => E1.loc j
    | none => if id < E.hp.length then E.loc id else E1.loc (ids.length + (id - E.hp.length)), hp := backHp ids E.hp E1.hp }

theorem unlend_hp (hnd : noDup ids = true) (hlt : ∀ id ∈ ids, id < E.hp.length) (hlen : ids.length ≤ E1.hp.length) (id : Nat) :
    (∃ j, idx ids id = some j ∧ id < E.hp.length ∧ (E.unlend E1 ids).hp[id]? = (E1.hp[j]?).map (renHC (sig ids E.hp.length)) ∧ (E.unlend E1 ids).loc id = E1.loc j) ∨
    (idx ids id = none ∧ id < E.hp.length ∧ (E.unlend E1 ids).hp[id]? = E.hp[id]? ∧ (E.unlend E1 ids).loc id = E.loc id) ∨
    (∃ k, idx ids id = none ∧ id = E.hp.length + k ∧ E.hp[id]? = none ∧ (E.unlend E1 ids).hp[id]? = (E1.hp[ids.length + k]?).map (renHC (sig ids E.hp.length)) ∧ (E.unlend E1 ids).loc id = E1.loc (ids.length + k)) := by
  have hl := setAll_len ids (E1.hp.map (renHC (sig ids E.hp.length))) E.hp
  cases hi : idx ids id with
  | some j =>
    have h1 := hlt id (idx_mem hi)
    refine .inl ⟨j, rfl, h1, ?_, by simp [Env.unlend, hi]⟩
    show (setAll ids (E1.hp.map (renHC (sig ids E.hp.length))) E.hp ++ _)[id]? = _
    rw [List.getElem?_append_left (by rw [hl]; exact h1), setAll_in ids _ _ j id hnd (idx_some hi) (by have := idx_lt hi; simp; omega) h1, List.getElem?_map]
  | none =>
    rcases Nat.lt_or_ge id E.hp.length with h1 | h1
    · refine .inr (.inl ⟨rfl, h1, ?_, by simp [Env.unlend, hi, h1]⟩)
      show (setAll ids (E1.hp.map (renHC (sig ids E.hp.length))) E.hp ++ _)[id]? = _
      rw [List.getElem?_append_left (by rw [hl]; exact h1), setAll_out ids _ _ id (idx_none hi)]
    · refine .inr (.inr ⟨id - E.hp.length, rfl, by omega, List.getElem?_eq_none h1, ?_, by simp [Env.unlend, hi, show ¬ id < E.hp.length by omega]⟩)
      show (setAll ids (E1.hp.map (renHC (sig ids E.hp.length))) E.hp ++ (E1.hp.drop ids.length).map _)[id]? = _
      rw [List.getElem?_append_right (by rw [hl]; exact h1), hl, List.getElem?_map, List.getElem?_drop]

theorem idx_at (hnd : noDup ids = true) {j id : Nat} (h : ids[j]? = some id) : idx ids id = some j := by
  cases hx : idx ids id with
  | none => exact absurd (List.mem_of_getElem? h) (idx_none hx)
  | some k => rw [noDup_inj hnd k j id (idx_some hx) h]

theorem unlend_ren (hnd : noDup ids = true) (hlt : ∀ id ∈ ids, id < E.hp.length) (hlen : ids.length ≤ E1.hp.length) : Ren E1 (E.unlend E1 ids) (sig ids E.hp.length) := by
  refine ⟨rfl, rfl, fun j id h => ?_⟩
  simp only [sig, Option.some.injEq] at h
  by_cases hj : j < ids.length
  · rw [if_pos hj] at h
    have hg : ids[j]? = some id := by rw [← h, List.getD_eq_getElem?_getD, List.getElem?_eq_getElem hj]; rfl
    rcases unlend_hp hnd hlt hlen id with ⟨k, h1, _, h2, h3⟩ | ⟨h1, _⟩ | ⟨k, h1, _⟩
    · rw [idx_at hnd hg] at h1
      cases h1
      exact ⟨h2, h3⟩
    · rw [idx_at hnd hg] at h1; cases h1
    · rw [idx_at hnd hg] at h1; cases h1
  · rw [if_neg hj] at h
    rcases unlend_hp hnd hlt hlen id with ⟨k, h1, h0, h2, h3⟩ | ⟨h1, h0, _⟩ | ⟨k, h1, h0, h4, h2, h3⟩
    · omega
    · omega
    · obtain rfl : j = ids.length + k := by omega
      exact ⟨h2, h3⟩

theorem unlend_ok (h : HR w0 S E) (hnd : noDup ids = true) (hlive : ids.all (isLiveAt E.hp) = true) (h1 : HR E.w (lendWho E ids) E1) (le1 : Le (E.lend ids) E1) :
    Le E (E.unlend E1 ids) ∧ HR w0 S (E.unlend E1 ids) ∧ ids.length ≤ E1.hp.length := by
  have hL : ∀ id ∈ ids, ∃ r, E.hp[id]? = some (.live r) := fun id hid => by
    have := List.all_eq_true.1 hlive id hid
    unfold isLiveAt at this
    split at this
    · rename_i r e; exact ⟨r, e⟩
    · cases this
  have hlt : ∀ id ∈ ids, id < E.hp.length := fun id hid => by
    obtain ⟨r, e⟩ := hL id hid
    exact (List.getElem?_eq_some_iff.1 e).1
  have get0 : ∀ {j id : Nat}, ids[j]? = some id → (E.lend ids).hp[j]? = (E.hp[id]?).map (renHC (idx ids)) := fun {j id} hj => by
    rw [lend_get, hj]
    obtain ⟨r, e⟩ := hL id (List.mem_of_getElem? hj)
    simp only [Option.map_some, List.getD_eq_getElem?_getD, e, Option.getD_some]
  have hlen : ids.length ≤ E1.hp.length := by
    rcases Nat.lt_or_ge E1.hp.length ids.length with hc | hc
    · exfalso
      have hg : ids[E1.hp.length]? = some ids[E1.hp.length] := List.getElem?_eq_getElem hc
      have := le1.old E1.hp.length (by rw [List.getElem?_eq_none (Nat.le_refl _)]; trivial)
      rw [get0 hg] at this
      obtain ⟨r, e⟩ := hL _ (List.mem_of_getElem? hg)
      rw [e] at this
      cases r <;> exact this
    · exact hc
  have key := unlend_hp (E := E) (E1 := E1) hnd hlt hlen
  have apart : ∀ id r l, idx ids id = none → E.hp[id]? = some (.live r) → E.loc id = some l → ¬ lent E ids l.b := by
    rintro id r l hi hx hl ⟨id', hm, r', l', hx', hl', e⟩
    have := h.inj id id' r r' l l' hx hx' hl hl' e
    subst this
    exact idx_none hi hm
  have same : ∀ id r l, idx ids id = none → E.hp[id]? = some (.live r) → E.loc id = some l → E1.w.heap[l.b]? = E.w.heap[l.b]? := fun id r l hi hx hl =>
    h1.old l.b (h.inside id r l hx hl) (apart id r l hi hx hl)
  have le : Le E (E.unlend E1 ids) := by
    refine ⟨fun b hb => le1.F b hb, fun b hb => le1.Fw b hb, fun id hn => ?_, fun id t xs ver hn hx => ?_, fun id ls hn hx => ?_⟩
    · rcases key id with ⟨j, hi, _, e, _⟩ | ⟨hi, _, e, _⟩ | ⟨k, hi, _, e0, e, _⟩
      · rw [e, renHC_notYet] at hn
        have := le1.old j hn
        rw [get0 (idx_some hi), renHC_notYet] at this
        exact this
      · rw [← e]; exact hn
      · rw [e0]; trivial
    · rcases key id with ⟨j, hi, _, e, e2⟩ | ⟨hi, _, e, e2⟩ | ⟨k, hi, _, e0, e, _⟩
      · rw [e] at hx
        have hx := live_row hx
        have hn' : ¬ notYet (E.lend ids).hp[j]? := by rw [get0 (idx_some hi), renHC_notYet]; exact hn
        obtain ⟨xs0, ver0, g1, g2, g3⟩ := le1.row j t xs ver hn' hx
        rw [get0 (idx_some hi)] at g1
        refine ⟨xs0, ver0, live_row g1, g2, fun e' => ?_⟩
        obtain ⟨g4, g5⟩ := g3 e'
        refine ⟨g4, ?_⟩
        rw [e2, g5]
        simp [Env.lend, idx_some hi]
      · exact ⟨xs, ver, by rw [← e]; exact hx, Nat.le_refl _, fun _ => ⟨Nat.le_refl _, e2⟩⟩
      · rw [e0] at hn; exact absurd trivial hn
    · rcases key id with ⟨j, hi, _, e, e2⟩ | ⟨hi, _, e, e2⟩ | ⟨k, hi, _, e0, e, _⟩
      · rw [e] at hx
        obtain ⟨ls1, hx1, rfl⟩ := live_box hx
        have hn' : ¬ notYet (E.lend ids).hp[j]? := by rw [get0 (idx_some hi), renHC_notYet]; exact hn
        obtain ⟨ls0, g1, g2, g3⟩ := le1.box j ls1 hn' hx1
        rw [get0 (idx_some hi)] at g1
        obtain ⟨ls2, g4, rfl⟩ := live_box g1
        have hm : ∀ (ρ : Nat → Option Nat) (l : List SV), (l.map (renSV ρ)).map SV.size = l.map SV.size := fun ρ l => by rw [List.map_map]; congr 1; funext a; exact renSV_size ρ a
        refine ⟨ls2, g4, ?_, ?_⟩
        · rw [hm, ← g2, hm]
        · rw [e2, g3]; simp [Env.lend, idx_some hi]
      · exact ⟨ls, by rw [← e]; exact hx, rfl, e2⟩
      · rw [e0] at hn; exact absurd trivial hn
  have hren := unlend_ren (E := E) (E1 := E1) hnd hlt hlen
  -- what is live behind the call
  have live : ∀ id r', (E.unlend E1 ids).hp[id]? = some (.live r') → (idx ids id = none ∧ E.hp[id]? = some (.live r') ∧ (E.unlend E1 ids).loc id = E.loc id) ∨
      (∃ j r, sig ids E.hp.length j = some id ∧ E1.hp[j]? = some (.live r) ∧ renHC (sig ids E.hp.length) (.live r) = .live r' ∧ (E.unlend E1 ids).loc id = E1.loc j) := fun id r' hx => by
    have conv : ∀ j : Nat, (E1.hp[j]?).map (renHC (sig ids E.hp.length)) = some (HC.live r') → ∃ r, E1.hp[j]? = some (HC.live r) ∧ renHC (sig ids E.hp.length) (HC.live r) = HC.live r' := fun j hj => by
      cases hc : E1.hp[j]? with
      | none => rw [hc] at hj; cases hj
      | some c =>
        rw [hc] at hj
        simp only [Option.map_some, Option.some.injEq] at hj
        cases c with
        | live r => exact ⟨r, rfl, hj⟩
        | fresh => cases hj
        | dead => cases hj
    rcases key id with ⟨j, hi, _, e, e2⟩ | ⟨hi, _, e, e2⟩ | ⟨k, hi, ek, e0, e, e2⟩
    · rw [e] at hx
      obtain ⟨r, h2, h3⟩ := conv j hx
      refine .inr ⟨j, r, ?_, h2, h3, e2⟩
      simp only [sig, if_pos (idx_lt hi), List.getD_eq_getElem?_getD, idx_some hi]; rfl
    · exact .inl ⟨hi, by rw [← e]; exact hx, e2⟩
    · rw [e] at hx
      obtain ⟨r, h2, h3⟩ := conv _ hx
      refine .inr ⟨_, r, ?_, h2, h3, e2⟩
      simp only [sig, if_neg (show ¬ ids.length + k < ids.length by omega), ek]
      congr 2; omega
  have sinj : ∀ j k id, sig ids E.hp.length j = some id → sig ids E.hp.length k = some id → j = k := fun j k id hj hk => by
    simp only [sig, Option.some.injEq] at hj hk
    have gl : ∀ {j}, j < ids.length → ids[j]? = some (ids.getD j 0) ∧ ids.getD j 0 < E.hp.length := fun {j} hj => by
      have : ids[j]? = some (ids.getD j 0) := by rw [List.getD_eq_getElem?_getD, List.getElem?_eq_getElem hj]; rfl
      exact ⟨this, hlt _ (List.mem_of_getElem? this)⟩
    split at hj <;> split at hk
    · rename_i a b
      refine noDup_inj hnd j k id ?_ ?_
      · rw [← hj]; exact (gl a).1
      · rw [← hk]; exact (gl b).1
    · rename_i a b; have := (gl a).2; omega
    · rename_i a b; have := (gl b).2; omega
    · omega
  have blk : ∀ j r l, E1.hp[j]? = some (.live r) → E1.loc j = some l → E.w.heap.size ≤ l.b ∨ lent E ids l.b := fun j r l hj hl => h1.may j r l hj hl
  refine ⟨le, ⟨fun id r hx => ?_, fun a b ra rb la lb ha hb hla hlb e => ?_, fun id r l hx hl hF => ?_, fun id r l hx hl => ?_, fun id r l hx hl => ?_, h1.Fin, fun b hF hlt' => ?_,
    fun b hlt' hw => ?_, Nat.le_trans h.size h1.size, h1.os.trans h.os, h1.tape.trans h.tape, h1.output.trans h.output⟩, hlen⟩
  · rcases live id r hx with ⟨hi, h2, h3⟩ | ⟨j, r0, hs, h2, h3, h4⟩
    · exact RootR.le le h3 (fun l hl => same id r l hi h2 hl) (h.root id r h2)
    · exact RootR.ren hren hs (h1.root j r0 h2) h3
  · rcases live a ra ha with ⟨hi, h2, h3⟩ | ⟨j, r0, hs, h2, h3, h4⟩
    · rcases live b rb hb with ⟨gi, g2, g3⟩ | ⟨k, q0, gs, g2, g3, g4⟩
      · exact h.inj a b ra rb la lb h2 g2 (h3 ▸ hla) (g3 ▸ hlb) e
      · have i1 := h.inside a ra la h2 (h3 ▸ hla)
        rcases blk k q0 lb g2 (g4 ▸ hlb) with g5 | g5
        · omega
        · exact absurd (e ▸ g5) (apart a ra la hi h2 (h3 ▸ hla))
    · rcases live b rb hb with ⟨gi, g2, g3⟩ | ⟨k, q0, gs, g2, g3, g4⟩
      · have i1 := h.inside b rb lb g2 (g3 ▸ hlb)
        rcases blk j r0 la h2 (h4 ▸ hla) with g5 | g5
        · omega
        · exact absurd (e ▸ g5) (apart b rb lb gi g2 (g3 ▸ hlb))
      · have := h1.inj j k r0 q0 la lb h2 g2 (h4 ▸ hla) (g4 ▸ hlb) e
        subst this
        rw [hs] at gs
        exact Option.some.inj gs
  · rcases live id r hx with ⟨hi, h2, h3⟩ | ⟨j, r0, hs, h2, h3, h4⟩
    · have i1 := h.inside id r l h2 (h3 ▸ hl)
      rcases h1.Fold l.b hF i1 with g | g
      · exact h.notF id r l h2 (h3 ▸ hl) g
      · exact apart id r l hi h2 (h3 ▸ hl) g
    · exact h1.notF j r0 l h2 (h4 ▸ hl) hF
  · rcases live id r hx with ⟨hi, h2, h3⟩ | ⟨j, r0, hs, h2, h3, h4⟩
    · exact h.may id r l h2 (h3 ▸ hl)
    · rcases blk j r0 l h2 (h4 ▸ hl) with g | ⟨id', _, r', l', g1, g2, g3⟩
      · exact .inl (Nat.le_trans h.size g)
      · rw [g3]; exact h.may id' r' l' g1 g2
  · rcases live id r hx with ⟨hi, h2, h3⟩ | ⟨j, r0, hs, h2, h3, h4⟩
    · exact Nat.lt_of_lt_of_le (h.inside id r l h2 (h3 ▸ hl)) h1.size
    · exact h1.inside j r0 l h2 (h4 ▸ hl)
  · rcases h1.Fold b hF (Nat.lt_of_lt_of_le hlt' h.size) with g | ⟨id', _, r', l', g1, g2, g3⟩
    · exact h.Fold b g hlt'
    · rcases h.may id' r' l' g1 g2 with g4 | g4
      · omega
      · rw [g3]; exact S.wg _ g4
  · refine (h1.old b (Nat.lt_of_lt_of_le hlt' h.size) ?_).trans (h.old b hlt' hw)
    rintro ⟨id', _, r', l', g1, g2, g3⟩
    rcases h.may id' r' l' g1 g2 with g4 | g4
    · omega
    · exact hw (by rw [g3]; exact g4)

/-- A call that is lent what stands at these ids. -/
theorem lend_call {k : Nat} {args : List CV} {hp : List HC} {K : AV → List HC → Prop} (ids : List Nat) (hnd : noDup ids = true) (hlive : ids.all (isLiveAt hp) = true)
    (h : ACall P k (args.map (renCV (idx ids))) (lendHp ids hp) fun r h => K (renAV (sig ids hp.length) r) (backHp ids hp h)) : ACall P k args hp K := by
  refine ⟨h.1, fun w0 S E vs hR hE hargs => ?_⟩
  subst hE
  have hlt : ∀ id ∈ ids, id < E.hp.length := fun id hid => by
    have := List.all_eq_true.1 hlive id hid
    unfold isLiveAt at this
    split at this
    · rename_i r e; exact (List.getElem?_eq_some_iff.1 e).1
    · cases this
  have hren := lend_ren (E := E) hlt
  refine (h.2 E.w (lendWho E ids) (E.lend ids) vs (lend_ok hR hnd hlt) rfl (hargs.map fun a _ ⟨v, e, hv⟩ => ⟨v, e, hv.ren hren⟩)).mono ?_
  rintro e w' ⟨r, E1, v, rfl, hK, rfl, hle, h1, hv⟩
  obtain ⟨g1, g2, g3⟩ := unlend_ok hR hnd hlive h1 hle
  exact ⟨_, E.unlend E1 ids, v, rfl, hK, rfl, g1, g2, hv.ren (unlend_ren hnd hlt g3)⟩

/-! A call whose things come to stand where room was left for them. -/
def isFreshAt (hp : List HC) (id : Nat) : Bool := match hp[id]? with
  | some .fresh => true
  | _ => false
def pos (ids : List Nat) (j : Nat) : Option Nat := ids[j]?
def locF (E E1 : Env) (ids : List Nat) (id : Nat) : Option Loc :=
  match idx ids id with
  | some j => E1.loc j
  | none => E.loc id
def Env.joinF (E E1 : Env) (ids : List Nat) : Env := ⟨E1.w, E1.F, locF E E1 ids, setAll ids (E1.hp.map (renHC (Ev.pos ids))) E.hp⟩

theorem joinF_ok {S' : Who} (h : HR w0 S E) (hnd : noDup ids = true) (hfr : ids.all (isFreshAt E.hp) = true) (hlen : E1.hp.length = ids.length) (h1 : HR E.w S' E1) (hS' : ∀ b, ¬ S'.w b) (hg : ∀ b, S'.g b → E.F b) (ha : ∀ b, E.F b → E1.F b) :
    Le E (E.joinF E1 ids) ∧ HR w0 S (E.joinF E1 ids) ∧ Ren E1 (E.joinF E1 ids) (pos ids) := by
  have hfresh : ∀ id ∈ ids, E.hp[id]? = some .fresh := fun id hid => by
    have := List.all_eq_true.1 hfr id hid
    unfold isFreshAt at this
    split at this
    · rename_i e; exact e
    · cases this
  have hlt : ∀ id ∈ ids, id < E.hp.length := fun id hid => (List.getElem?_eq_some_iff.1 (hfresh id hid)).1
  have key : ∀ id, (∃ j, idx ids id = some j ∧ E.hp[id]? = some .fresh ∧ (E.joinF E1 ids).hp[id]? = (E1.hp[j]?).map (renHC (pos ids)) ∧ (E.joinF E1 ids).loc id = E1.loc j) ∨
      (idx ids id = none ∧ (E.joinF E1 ids).hp[id]? = E.hp[id]? ∧ (E.joinF E1 ids).loc id = E.loc id) := fun id => by
    cases hi : idx ids id with
    | some j =>
      refine .inl ⟨j, rfl, hfresh id (idx_mem hi), ?_, by simp [Env.joinF, locF, hi]⟩
      show (setAll ids (E1.hp.map (renHC (pos ids))) E.hp)[id]? = _
      rw [setAll_in ids _ _ j id hnd (idx_some hi) (by have := idx_lt hi; simp; omega) (hlt id (idx_mem hi)), List.getElem?_map]
    | none => exact .inr ⟨rfl, setAll_out _ _ _ _ (idx_none hi), by simp [Env.joinF, locF, hi]⟩
  have same : ∀ b, b < E.w.heap.size → E1.w.heap[b]? = E.w.heap[b]? := fun b hb => h1.old b hb (hS' b)
  have le : Le E (E.joinF E1 ids) := by
    refine ⟨ha, fun b hb => same b (h.Fin b hb), fun id hn => ?_, fun id t xs ver hn hx => ?_, fun id ls hn hx => ?_⟩
    · rcases key id with ⟨j, _, e, _⟩ | ⟨_, e, _⟩
      · rw [e]; trivial
      · rw [← e]; exact hn
    · rcases key id with ⟨j, _, e, _⟩ | ⟨_, e, e2⟩
      · rw [e] at hn; exact absurd trivial hn
      · exact ⟨xs, ver, by rw [← e]; exact hx, Nat.le_refl _, fun _ => ⟨Nat.le_refl _, e2⟩⟩
    · rcases key id with ⟨j, _, e, _⟩ | ⟨_, e, e2⟩
      · rw [e] at hn; exact absurd trivial hn
      · exact ⟨ls, by rw [← e]; exact hx, rfl, e2⟩
  have ren : Ren E1 (E.joinF E1 ids) (pos ids) := by
    refine ⟨rfl, rfl, fun j id hj => ?_⟩
    have hi := idx_at hnd hj
    rcases key id with ⟨k, g1, _, g2, g3⟩ | ⟨g1, _⟩
    · rw [hi] at g1; cases g1; exact ⟨g2, g3⟩
    · rw [hi] at g1; cases g1
  have live : ∀ id r', (E.joinF E1 ids).hp[id]? = some (.live r') → (E.hp[id]? = some (.live r') ∧ (E.joinF E1 ids).loc id = E.loc id) ∨
      (∃ j r, ids[j]? = some id ∧ E1.hp[j]? = some (.live r) ∧ renHC (pos ids) (.live r) = .live r' ∧ (E.joinF E1 ids).loc id = E1.loc j) := fun id r' hx => by
    rcases key id with ⟨j, hi, _, e, e2⟩ | ⟨_, e, e2⟩
    · rw [e] at hx
      cases hc : E1.hp[j]? with
      | none => rw [hc] at hx; cases hx
      | some c =>
        rw [hc] at hx
        simp only [Option.map_some, Option.some.injEq] at hx
        cases c with
        | live r => exact .inr ⟨j, r, idx_some hi, hc, hx, e2⟩
        | fresh => cases hx
        | dead => cases hx
    · exact .inl ⟨by rw [← e]; exact hx, e2⟩
  have new : ∀ k r l, E1.hp[k]? = some (.live r) → E1.loc k = some l → E.w.heap.size ≤ l.b := fun k r l hx hl => by
    rcases h1.may k r l hx hl with h2 | h2
    · exact h2
    · exact absurd h2 (hS' _)
  refine ⟨le, ⟨fun id r hx => ?_, fun i j ri rj li lj hi hj hli hlj e => ?_, fun i r l hx hl hF => ?_, fun i r l hx hl => ?_, fun i r l hx hl => ?_, h1.Fin, fun b hF hlt => h.Fold b (hg b (h1.Fold b hF (Nat.lt_of_lt_of_le hlt h.size))) hlt,
    fun b hlt hw => (same b (Nat.lt_of_lt_of_le hlt h.size)).trans (h.old b hlt hw), Nat.le_trans h.size h1.size, h1.os.trans h.os, h1.tape.trans h.tape, h1.output.trans h.output⟩, ren⟩
  · rcases live id r hx with ⟨h2, h3⟩ | ⟨k, r0, hk, h2, h3, h4⟩
    · exact RootR.le le h3 (fun l hl => same l.b (h.inside id r l h2 hl)) (h.root id r h2)
    · exact RootR.ren ren hk (h1.root k r0 h2) h3
  · rcases live i ri hi with ⟨h2, h3⟩ | ⟨k, r0, hk, h2, h3, h4⟩
    · rcases live j rj hj with ⟨h5, h6⟩ | ⟨k', r0', hk', h5, h6, h7⟩
      · exact h.inj i j ri rj li lj h2 h5 (h3 ▸ hli) (h6 ▸ hlj) e
      · have := h.inside i ri li h2 (h3 ▸ hli)
        have := new k' r0' lj h5 (h7 ▸ hlj)
        omega
    · rcases live j rj hj with ⟨h5, h6⟩ | ⟨k', r0', hk', h5, h6, h7⟩
      · have := h.inside j rj lj h5 (h6 ▸ hlj)
        have := new k r0 li h2 (h4 ▸ hli)
        omega
      · have := h1.inj k k' r0 r0' li lj h2 h5 (h4 ▸ hli) (h7 ▸ hlj) e
        subst this
        rw [hk] at hk'
        exact Option.some.inj hk'
  · rcases live i r hx with ⟨h2, h3⟩ | ⟨k, r0, hk, h2, h3, h4⟩
    · exact h.notF i r l h2 (h3 ▸ hl) (hg _ (h1.Fold _ hF (h.inside i r l h2 (h3 ▸ hl))))
    · exact h1.notF k r0 l h2 (h4 ▸ hl) hF
  · rcases live i r hx with ⟨h2, h3⟩ | ⟨k, r0, hk, h2, h3, h4⟩
    · exact h.may i r l h2 (h3 ▸ hl)
    · exact .inl (Nat.le_trans h.size (new k r0 l h2 (h4 ▸ hl)))
  · rcases live i r hx with ⟨h2, h3⟩ | ⟨k, r0, hk, h2, h3, h4⟩
    · exact Nat.lt_of_lt_of_le (h.inside i r l h2 (h3 ▸ hl)) h1.size
    · exact h1.inside k r0 l h2 (h4 ▸ hl)

/-- A call whose arguments are closed, and whose things come to stand where room was left. -/
theorem iso0F {k : Nat} {args : List CV} {hp : List HC} {K : AV → List HC → Prop} (ids : List Nat) (hnd : noDup ids = true) (hfr : ids.all (isFreshAt hp) = true) (hc : args.all CV.cl = true)
    (h : ACall P k args [] fun r h => h.length = ids.length ∧ K (renAV (pos ids) r) (setAll ids (h.map (renHC (pos ids))) hp)) : ACall P k args hp K := by
  refine ⟨h.1, fun w0 S E vs hR hE hargs => ?_⟩
  subst hE
  let E0 : Env := { w := E.w, F := E.F, loc := fun _ => none, hp := [] }
  let S' : Who := ⟨fun _ => False, E.F, fun _ h => h.elim⟩
  have h0 : HR E.w S' E0 := ⟨fun id r hx => by simp [E0] at hx, fun i j ri rj li lj hx => by simp [E0] at hx, fun i r l hx => by simp [E0] at hx, fun i r l hx => by simp [E0] at hx, fun i r l hx => by simp [E0] at hx, hR.Fin, fun b hb _ => hb, fun _ _ _ => rfl, Nat.le_refl _, rfl, rfl, rfl⟩
  refine (h.2 E.w S' E0 vs h0 rfl (hargs.imp_mem fun a ha _ ⟨v, e, hv⟩ => ⟨v, e, CVR.cl (E := E) (E' := E0) rfl (fun _ h => h) (List.all_eq_true.1 hc a ha) hv⟩)).mono ?_
  rintro e w' ⟨r, E1, v, rfl, ⟨hlen, hK⟩, rfl, hle, h1, hv⟩
  obtain ⟨g1, g2, g3⟩ := joinF_ok hR hnd hfr hlen h1 (fun _ h => h) (fun _ h => h) (fun b hb => hle.F b hb)
  exact ⟨_, E.joinF E1 ids, v, rfl, hK, rfl, g1, g2, hv.ren g3⟩
end
end Go.Proofs.Ytgkjgpiggjjmpaa.Ev
