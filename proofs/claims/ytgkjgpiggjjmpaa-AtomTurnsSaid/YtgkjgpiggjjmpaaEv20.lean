/- Lemmas for the claim: Calls that see nothing of their caller's memory. (no condition.) -/
import Derived.Test.YtgkjgpiggjjmpaaEv19
/-! Calls that see nothing of their caller's memory. -/
namespace Go.Proofs.Ytgkjgpiggjjmpaa.Ev
open Go
set_option linter.unusedVariables false

def Ty.flat : Ty → Bool
  | .sl _ => false
  | .pair a b => a.flat && b.flat
  | .arr _ e => e.flat
  | _ => true

theorem KC.flat {w w' : World} {F F' : Nat → Prop} : ∀ {t : Ty} {x : t.D} {cs : List Value}, t.flat = true → KC w F t x cs → KC w' F' t x cs
  | .int _, _, _, _, h => h
  | .bool, _, _, _, h => h
  | .str, _, _, _, h => h
  | .unit, _, _, _, h => h
  | .pair a b, _, _, hf, ⟨c1, c2, e, h1, h2⟩ => by
    simp only [Ty.flat, Bool.and_eq_true] at hf
    exact ⟨c1, c2, e, KC.flat hf.1 h1, KC.flat hf.2 h2⟩
  | .arr n e, _, _, hf, ⟨hn, hs⟩ => ⟨hn, hs.imp fun _ _ h => KC.flat (show e.flat = true from hf) h⟩
  | .sl e, _, _, hf, _ => by cases hf

/-- Nothing of memory that may be written. -/
def SV.cl : SV → Bool
  | .u | .c _ _ | .nl _ | .cp _ _ => true
  | _ => false
def CV.cl : CV → Bool
  | .one a => a.cl
  | .agg l => l.all SV.cl
  | .fn _ caps => caps.all SV.cl

/-- Nothing that leads to memory that is never written. -/
def SV.flat : SV → Bool
  | .c t _ => t.flat
  | .cp _ _ => false
  | _ => true
def CV.flat : CV → Bool
  | .one a => a.flat
  | .agg l => l.all SV.flat
  | .fn _ caps => caps.all SV.flat
def AV.flat : AV → Bool
  | .v a => a.flat
  | .tup l => l.all CV.flat
def HC.flat : HC → Bool
  | .live (.box ls) => ls.all SV.flat
  | .live (.row t _ _) => t.flat
  | _ => true

theorem SVR.cl {E E' : Env} (hw : E'.w = E.w) (hF : ∀ b, E.F b → E'.F b) {a : SV} (hc : a.cl = true) {v : Value} (h : SVR E a v) : SVR E' a v := by
  cases a with
  | u => trivial
  | c t x => obtain ⟨cs, hk, e⟩ := h; exact ⟨cs, by rw [hw]; exact KC.move hF (fun _ _ => rfl) hk, e⟩
  | nl t => exact h
  | cp t x => obtain ⟨b, o, cs, e, hb, hk, hcs⟩ := h; exact ⟨b, o, cs, e, hF b hb, by rw [hw]; exact KC.move hF (fun _ _ => rfl) hk, by rw [hw]; exact hcs⟩
  | _ => cases hc
theorem SVC.cl {E E' : Env} (hw : E'.w = E.w) (hF : ∀ b, E.F b → E'.F b) {a : SV} (hc : a.cl = true) {cs : List Value} (h : SVC E a cs) : SVC E' a cs := by
  cases a with
  | c t x => show KC E'.w E'.F t x cs; rw [hw]; exact KC.move hF (fun _ _ => rfl) h
  | _ => obtain ⟨v, e, hv⟩ := h; exact ⟨v, e, hv.cl hw hF hc⟩

theorem Segs.imp_mem {α : Type} {R R' : α → List Value → Prop} : ∀ {xs : List α} {cs : List Value}, (∀ x ∈ xs, ∀ c, R x c → R' x c) → Segs R xs cs → Segs R' xs cs
  | [], _, _, hs => hs
  | x :: xs, _, h, ⟨c1, c2, e, h1, h2⟩ => ⟨c1, c2, e, h x (.head _) _ h1, Segs.imp_mem (fun y hy => h y (.tail _ hy)) h2⟩

theorem CVR.cl {E E' : Env} (hw : E'.w = E.w) (hF : ∀ b, E.F b → E'.F b) {a : CV} (hc : a.cl = true) {v : Value} (h : CVR E a v) : CVR E' a v := by
  cases a with
  | one a => exact SVR.cl hw hF hc h
  | agg l => obtain ⟨cs, hs, e⟩ := h; exact ⟨cs, hs.imp_mem fun x hx _ h' => h'.cl hw hF (List.all_eq_true.1 hc x hx), e⟩
  | fn f caps => obtain ⟨vs, e, hs⟩ := h; exact ⟨vs, e, hs.imp_mem fun x hx _ ⟨v, e, h'⟩ => ⟨v, e, h'.cl hw hF (List.all_eq_true.1 hc x hx)⟩⟩

theorem SVR.flat' {E E' : Env} (hp : E'.hp = E.hp) (hl : E'.loc = E.loc) {a : SV} (hc : a.flat = true) {v : Value} (h : SVR E a v) : SVR E' a v := by
  cases a with
  | u => trivial
  | c t x => obtain ⟨cs, hk, e⟩ := h; exact ⟨cs, KC.flat hc hk, e⟩
  | nl t => exact h
  | cp t x => cases hc
  | _ => simp only [SVR, hp, hl] at h ⊢; exact h
theorem SVC.flat' {E E' : Env} (hp : E'.hp = E.hp) (hl : E'.loc = E.loc) {a : SV} (hc : a.flat = true) {cs : List Value} (h : SVC E a cs) : SVC E' a cs := by
  cases a with
  | c t x => exact KC.flat hc h
  | _ => obtain ⟨v, e, hv⟩ := h; exact ⟨v, e, hv.flat' hp hl hc⟩
theorem CVR.flat' {E E' : Env} (hp : E'.hp = E.hp) (hl : E'.loc = E.loc) {a : CV} (hc : a.flat = true) {v : Value} (h : CVR E a v) : CVR E' a v := by
  cases a with
  | one a => exact SVR.flat' hp hl hc h
  | agg l => obtain ⟨cs, hs, e⟩ := h; exact ⟨cs, hs.imp_mem fun x hx _ h' => h'.flat' hp hl (List.all_eq_true.1 hc x hx), e⟩
  | fn f caps => obtain ⟨vs, e, hs⟩ := h; exact ⟨vs, e, hs.imp_mem fun x hx _ ⟨v, e, h'⟩ => ⟨v, e, h'.flat' hp hl (List.all_eq_true.1 hc x hx)⟩⟩
theorem AVR.flat' {E E' : Env} (hp : E'.hp = E.hp) (hl : E'.loc = E.loc) {a : AV} (hc : a.flat = true) {v : Value} (h : AVR E a v) : AVR E' a v := by
  cases a with
  | v a => exact CVR.flat' hp hl hc h
  | tup l => obtain ⟨vs, e, hs⟩ := h; exact ⟨vs, e, hs.imp_mem fun x hx _ ⟨v, e, h'⟩ => ⟨v, e, h'.flat' hp hl (List.all_eq_true.1 hc x hx)⟩⟩
theorem RootR.flat' {E E' : Env} (hw : E'.w = E.w) (hp : E'.hp = E.hp) (hl : E'.loc = E.loc) {id : Nat} {r : Root} (hc : (HC.live r).flat = true) (h : RootR E id r) : RootR E' id r := by
  cases r with
  | box ls => obtain ⟨l, ty, cells, h1, h2, h3⟩ := h; exact ⟨l, ty, cells, by rw [hl]; exact h1, by rw [hw]; exact h2, h3.imp_mem fun x hx _ h' => h'.flat' hp hl (List.all_eq_true.1 hc x hx)⟩
  | row t xs ver =>
    simp only [RootR, hl, hw] at h ⊢
    split
    · rename_i e; rw [e] at h; exact h
    · rename_i l e
      rw [e] at h
      obtain ⟨ty, cells, h1, h2, h3, h4⟩ := h
      refine ⟨ty, cells, h1, h2, h3, fun i x hx => ?_⟩
      obtain ⟨ec, h5, h6⟩ := h4 i x hx
      exact ⟨ec, KC.flat hc h5, h6⟩

def up (n : Nat) (id : Nat) : Option Nat := some (n + id)

/-- The caller's knowledge behind a call. -/
def Env.join (E E1 : Env) (F : Nat → Prop) : Env := { w := E1.w, F := F, loc := fun id => if id < E.hp.length then E.loc id else E1.loc (id - E.hp.length), hp := E.hp ++ E1.hp.map (renHC (up E.hp.length)) }

section
variable {P : Program} {w0 : World} {S S' : Who} {E E1 : Env} {F : Nat → Prop}

theorem join_hp (E E1 : Env) (F : Nat → Prop) (id : Nat) : (id < E.hp.length ∧ (E.join E1 F).hp[id]? = E.hp[id]? ∧ (E.join E1 F).loc id = E.loc id) ∨
    (∃ k, id = E.hp.length + k ∧ E.hp[id]? = none ∧ (E.join E1 F).hp[id]? = (E1.hp[k]?).map (renHC (up E.hp.length)) ∧ (E.join E1 F).loc id = E1.loc k) := by
  rcases Nat.lt_or_ge id E.hp.length with h | h
  · exact .inl ⟨h, List.getElem?_append_left h, by simp [Env.join, h]⟩
  · refine .inr ⟨id - E.hp.length, by omega, List.getElem?_eq_none h, ?_, by simp [Env.join, show ¬ id < E.hp.length by omega]⟩
    show (E.hp ++ E1.hp.map (renHC (up E.hp.length)))[id]? = _
    rw [List.getElem?_append_right h, List.getElem?_map]

theorem join_ren (E E1 : Env) : Ren E1 (E.join E1 E1.F) (up E.hp.length) := by
  refine ⟨rfl, rfl, fun id id' h => ?_⟩
  simp only [up, Option.some.injEq] at h
  subst h
  rcases join_hp E E1 E1.F (E.hp.length + id) with ⟨h, _⟩ | ⟨k, e, _, h1, h2⟩
  · omega
  · obtain rfl : id = k := by omega
    exact ⟨h1, h2⟩

theorem RootR.ren {E E' : Env} {ρ : Nat → Option Nat} (h : Ren E E' ρ) {id id' : Nat} (hi : ρ id = some id') {r r' : Root} (hr : RootR E id r) (e : renHC ρ (.live r) = .live r') : RootR E' id' r' := by
  obtain ⟨h1, h2⟩ := h.hp id id' hi
  cases r with
  | box ls =>
    simp only [renHC, HC.live.injEq] at e
    subst e
    obtain ⟨l, ty, cells, g1, g2, g3⟩ := hr
    exact ⟨l, ty, cells, h2.trans g1, by rw [h.w]; exact g2, g3.map fun _ _ h' => h'.ren h⟩
  | row t xs ver =>
    simp only [renHC, HC.live.injEq] at e
    subst e
    simp only [RootR, h2, h.w, h.F] at hr ⊢
    exact hr

theorem join_ok (h : HR w0 S E) (h1 : HR E.w S' E1) (hS' : ∀ b, ¬ S'.w b) (ha : ∀ b, E.F b → F b) (hb : ∀ b, F b → E1.F b) (hd : ∀ b, F b → b < E.w.heap.size → E.F b)
    (hroot : ∀ id r, E1.hp[id]? = some (.live r) → ∀ r', renHC (up E.hp.length) (.live r) = .live r' → RootR (E.join E1 F) (E.hp.length + id) r') :
    Le E (E.join E1 F) ∧ HR w0 S (E.join E1 F) := by
  have same : ∀ b, b < E.w.heap.size → E1.w.heap[b]? = E.w.heap[b]? := fun b hb => h1.old b hb (hS' b)
  have le : Le E (E.join E1 F) := by
    refine ⟨ha, fun b hb => same b (h.Fin b hb), fun id hn => ?_, fun id t xs ver hn hx => ?_, fun id ls hn hx => ?_⟩
    · rcases join_hp E E1 F id with ⟨_, e, _⟩ | ⟨k, _, e, _⟩
      · rw [← e]; exact hn
      · rw [e]; trivial
    · rcases join_hp E E1 F id with ⟨_, e, e2⟩ | ⟨k, _, e, _⟩
      · exact ⟨xs, ver, by rw [← e]; exact hx, Nat.le_refl _, fun _ => ⟨Nat.le_refl _, e2⟩⟩
      · rw [e] at hn; exact absurd trivial hn
    · rcases join_hp E E1 F id with ⟨_, e, e2⟩ | ⟨k, _, e, _⟩
      · exact ⟨ls, by rw [← e]; exact hx, rfl, e2⟩
      · rw [e] at hn; exact absurd trivial hn
  have new : ∀ k r l, E1.hp[k]? = some (.live r) → E1.loc k = some l → E.w.heap.size ≤ l.b := fun k r l hx hl => by
    rcases h1.may k r l hx hl with h2 | h2
    · exact h2
    · exact absurd h2 (hS' _)
  have live : ∀ id r', (E.join E1 F).hp[id]? = some (.live r') → (E.hp[id]? = some (.live r') ∧ (E.join E1 F).loc id = E.loc id) ∨
      (∃ k r, id = E.hp.length + k ∧ E1.hp[k]? = some (.live r) ∧ renHC (up E.hp.length) (.live r) = .live r' ∧ (E.join E1 F).loc id = E1.loc k) := fun id r' hx => by
    rcases join_hp E E1 F id with ⟨_, e, e2⟩ | ⟨k, e0, e, e3, e2⟩
    · exact .inl ⟨by rw [← e]; exact hx, e2⟩
    · rw [e3] at hx
      cases hc : E1.hp[k]? with
      | none => rw [hc] at hx; cases hx
      | some c =>
        rw [hc] at hx
        simp only [Option.map_some, Option.some.injEq] at hx
        cases c with
        | live r => exact .inr ⟨k, r, e0, hc, hx, e2⟩
        | _ => simp [renHC] at hx
  refine ⟨le, fun id r hx => ?_, fun i j ri rj li lj hi hj hli hlj e => ?_, fun i r l hx hl hF => ?_, fun i r l hx hl => ?_, fun i r l hx hl => ?_, fun b hF => h1.Fin b (hb b hF), fun b hF hlt => h.Fold b (hd b hF (Nat.lt_of_lt_of_le hlt h.size)) hlt,
    fun b hlt hw => (same b (Nat.lt_of_lt_of_le hlt h.size)).trans (h.old b hlt hw), Nat.le_trans h.size h1.size, h1.os.trans h.os, h1.tape.trans h.tape, h1.output.trans h.output⟩
  · rcases live id r hx with ⟨h2, h3⟩ | ⟨k, r0, rfl, h2, h3, h4⟩
    · exact RootR.le le h3 (fun l hl => same l.b (h.inside id r l h2 hl)) (h.root id r h2)
    · exact hroot k r0 h2 r h3
  · rcases live i ri hi with ⟨h2, h3⟩ | ⟨k, r0, rfl, h2, h3, h4⟩
    · rcases live j rj hj with ⟨h5, h6⟩ | ⟨k', r0', rfl, h5, h6, h7⟩
      · exact h.inj i j ri rj li lj h2 h5 (h3 ▸ hli) (h6 ▸ hlj) e
      · have := h.inside i ri li h2 (h3 ▸ hli)
        have := new k' r0' lj h5 (h7 ▸ hlj)
        omega
    · rcases live j rj hj with ⟨h5, h6⟩ | ⟨k', r0', rfl, h5, h6, h7⟩
      · have := h.inside j rj lj h5 (h6 ▸ hlj)
        have := new k r0 li h2 (h4 ▸ hli)
        omega
      · rw [h1.inj k k' r0 r0' li lj h2 h5 (h4 ▸ hli) (h7 ▸ hlj) e]
  · rcases live i r hx with ⟨h2, h3⟩ | ⟨k, r0, rfl, h2, h3, h4⟩
    · exact h.notF i r l h2 (h3 ▸ hl) (hd _ hF (h.inside i r l h2 (h3 ▸ hl)))
    · exact h1.notF k r0 l h2 (h4 ▸ hl) (hb _ hF)
  · rcases live i r hx with ⟨h2, h3⟩ | ⟨k, r0, rfl, h2, h3, h4⟩
    · exact h.may i r l h2 (h3 ▸ hl)
    · exact .inl (Nat.le_trans h.size (new k r0 l h2 (h4 ▸ hl)))
  · rcases live i r hx with ⟨h2, h3⟩ | ⟨k, r0, rfl, h2, h3, h4⟩
    · exact Nat.lt_of_lt_of_le (h.inside i r l h2 (h3 ▸ hl)) h1.size
    · exact h1.inside k r0 l h2 (h4 ▸ hl)

/-- A call whose arguments are closed. -/
theorem iso0 {k : Nat} {args : List CV} {hp : List HC} {K : AV → List HC → Prop} (hc : args.all CV.cl = true)
    (h : ACall P k args [] fun r h => K (renAV (up hp.length) r) (hp ++ h.map (renHC (up hp.length)))) : ACall P k args hp K := by
  refine ⟨h.1, fun w0 S E vs hR hE hargs => ?_⟩
  subst hE
  let E0 : Env := { w := E.w, F := E.F, loc := fun _ => none, hp := [] }
  let S' : Who := ⟨fun _ => False, E.F, fun _ h => h.elim⟩
  have h0 : HR E.w S' E0 := ⟨fun id r hx => by simp [E0] at hx, fun i j ri rj li lj hx => by simp [E0] at hx, fun i r l hx => by simp [E0] at hx, fun i r l hx => by simp [E0] at hx, fun i r l hx => by simp [E0] at hx, hR.Fin, fun b hb _ => hb, fun _ _ _ => rfl, Nat.le_refl _, rfl, rfl, rfl⟩
  refine (h.2 E.w S' E0 vs h0 rfl (hargs.imp_mem fun a ha _ ⟨v, e, hv⟩ => ⟨v, e, CVR.cl (E := E) (E' := E0) rfl (fun _ h => h) (List.all_eq_true.1 hc a ha) hv⟩)).mono ?_
  rintro e w' ⟨r, E1, v, rfl, hK, rfl, hle, h1, hv⟩
  have hren := join_ren E E1
  obtain ⟨g1, g2⟩ := join_ok (F := E1.F) hR h1 (fun _ h => h) (fun b hb => hle.F b hb) (fun _ h => h) (fun b hb hlt => h1.Fold b hb hlt)
    (fun id r hx r' e => RootR.ren hren rfl (h1.root id r hx) e)
  exact ⟨_, E.join E1 E1.F, v, rfl, hK, rfl, g1, g2, hv.ren hren⟩
end
end Go.Proofs.Ytgkjgpiggjjmpaa.Ev
