/- Lemmas for the claim: Less is known: what is not needed falls away. (no condition.) -/
import Derived.Test.YtgkjgpiggjjmpaaEv15
/-! Less is known: what is not needed falls away. -/
namespace Go.Proofs.Ytgkjgpiggjjmpaa.Ev
open Go
set_option linter.unusedVariables false

def renSV (ρ : Nat → Option Nat) : SV → SV
  | .ref id ver t off len => match ρ id with
    | some id' => .ref id' ver t off len
    | none => .u
  | .bp id j => match ρ id with
    | some id' => .bp id' j
    | none => .u
  | .ip id j i => match ρ id with
    | some id' => .ip id' j i
    | none => .u
  | .rp id ver t i p => match ρ id with
    | some id' => .rp id' ver t i p
    | none => .u
  | a => a

def renCV (ρ : Nat → Option Nat) : CV → CV
  | .one a => .one (renSV ρ a)
  | .agg l => .agg (l.map (renSV ρ))
  | .fn f caps => .fn f (caps.map (renSV ρ))

def renAV (ρ : Nat → Option Nat) : AV → AV
  | .v a => .v (renCV ρ a)
  | .tup l => .tup (l.map (renCV ρ))

def renHC (ρ : Nat → Option Nat) : HC → HC
  | .live (.box ls) => .live (.box (ls.map (renSV ρ)))
  | c => c

def idx : List Nat → Nat → Option Nat
  | [], _ => none
  | a :: l, x => if a = x then some 0 else (idx l x).map (· + 1)

def rho (n : Nat) (olds : List Nat) (id : Nat) : Option Nat := if id < n then some id else (idx olds id).map (n + ·)

def trimHp (n : Nat) (olds : List Nat) (hp : List HC) : List HC := (hp.take n).map (renHC (rho n olds)) ++ olds.map fun id => renHC (rho n olds) (hp.getD id .dead)

/-- From one state of knowledge another one follows. -/
def Weak (n : Nat) (st st' : St) : Prop :=
  ∀ (w0 : World) (S : Who) (E0 E : Env) (tmps : Array Value), HR w0 S E → E.hp = st.hp → TR E st.tm tmps → LeN n E0 E → ∃ E', E'.w = E.w ∧ E'.hp = st'.hp ∧ HR w0 S E' ∧ TR E' st'.tm tmps ∧ LeN n E0 E'

theorem Weak.refl (n : Nat) (st : St) : Weak n st st := fun _ _ _ E _ h1 h2 h3 h4 => ⟨E, rfl, h2, h1, h3, h4⟩
theorem Weak.trans {n : Nat} {a b c : St} (h : Weak n a b) (k : Weak n b c) : Weak n a c := fun w0 S E0 E tmps h1 h2 h3 h4 => by
  obtain ⟨E', e1, e2, e3, e4, e5⟩ := h w0 S E0 E tmps h1 h2 h3 h4
  obtain ⟨E'', f1, f2, f3, f4, f5⟩ := k w0 S E0 E' tmps e3 e2 e4 e5
  exact ⟨E'', f1.trans e1, f2, f3, f4, f5⟩

theorem idx_some : ∀ {l : List Nat} {x k : Nat}, idx l x = some k → l[k]? = some x
  | a :: l, x, k, h => by
    simp only [idx] at h
    split at h
    · rename_i e; simp at h; subst h; simp [e]
    · simp only [Option.map_eq_some_iff] at h
      obtain ⟨k', h, rfl⟩ := h
      simpa using idx_some h

theorem renSV_size (ρ : Nat → Option Nat) (a : SV) : (renSV ρ a).size = a.size := by
  cases a with
  | ref id ver t off len => simp only [renSV]; cases ρ id <;> rfl
  | bp id j => simp only [renSV]; cases ρ id <;> rfl
  | ip id j i => simp only [renSV]; cases ρ id <;> rfl
  | rp id ver t i p => simp only [renSV]; cases ρ id <;> rfl
  | _ => rfl

/-- A renaming that keeps what is known. -/
structure Ren (E E' : Env) (ρ : Nat → Option Nat) : Prop where
  w : E'.w = E.w
  F : E'.F = E.F
  hp : ∀ id id', ρ id = some id' → E'.hp[id']? = (E.hp[id]?).map (renHC ρ) ∧ E'.loc id' = E.loc id

theorem renHC_notYet {ρ : Nat → Option Nat} {c : Option HC} : notYet (c.map (renHC ρ)) ↔ notYet c := by
  cases c with
  | none => exact Iff.rfl
  | some c =>
    cases c with
    | fresh => exact Iff.rfl
    | dead => exact Iff.rfl
    | live r => cases r <;> exact Iff.rfl

theorem sumsz_ren (ρ : Nat → Option Nat) (l : List SV) : sumsz (l.map (renSV ρ)) = sumsz l := by
  induction l with
  | nil => rfl
  | cons a l ih => simp only [List.map_cons, sumsz, renSV_size, ih]

theorem live_box {ρ : Nat → Option Nat} {c : Option HC} {ls : List SV} (h : c.map (renHC ρ) = some (.live (.box ls))) : ∃ ls0, c = some (.live (.box ls0)) ∧ ls = ls0.map (renSV ρ) := by
  cases c with
  | none => cases h
  | some c =>
    cases c with
    | live r =>
      cases r with
      | box ls0 => simp only [Option.map_some, renHC, Option.some.injEq, HC.live.injEq, Root.box.injEq] at h; exact ⟨ls0, rfl, h.symm⟩
      | row t xs ver => simp [renHC] at h
    | _ => simp [renHC] at h

theorem live_row {ρ : Nat → Option Nat} {c : Option HC} {t : Ty} {xs : List t.D} {ver : Nat} (h : c.map (renHC ρ) = some (.live (.row t xs ver))) : c = some (.live (.row t xs ver)) := by
  cases c with
  | none => cases h
  | some c =>
    cases c with
    | live r =>
      cases r with
      | box ls0 => simp [renHC] at h
      | row t xs ver => exact h
    | _ => simp [renHC] at h

theorem SVR.ren {E E' : Env} {ρ : Nat → Option Nat} (h : Ren E E' ρ) : ∀ {a : SV} {v : Value}, SVR E a v → SVR E' (renSV ρ a) v := by
  intro a v hv
  cases a with
  | u => trivial
  | c t x => obtain ⟨cs, hk, e⟩ := hv; exact ⟨cs, by rw [h.w, h.F]; exact hk, e⟩
  | nl t => exact hv
  | cp t x => obtain ⟨b, o, cs, e, hF, hk, hc⟩ := hv; exact ⟨b, o, cs, e, by rw [h.F]; exact hF, by rw [h.w, h.F]; exact hk, by rw [h.w]; exact hc⟩
  | ref id ver t off len =>
    simp only [renSV]
    split
    · rename_i id' e
      obtain ⟨h1, h2⟩ := h.hp id id' e
      obtain ⟨hn, hr⟩ := hv
      refine ⟨by rw [h1, renHC_notYet]; exact hn, fun xs ver' hx => ?_⟩
      rw [h1] at hx
      rw [h2]
      exact hr xs ver' (live_row hx)
    · trivial
  | bp id j =>
    simp only [renSV]
    split
    · rename_i id' e
      obtain ⟨h1, h2⟩ := h.hp id id' e
      obtain ⟨hn, hr⟩ := hv
      refine ⟨by rw [h1, renHC_notYet]; exact hn, fun ls hx => ?_⟩
      rw [h1] at hx
      obtain ⟨ls0, hx0, rfl⟩ := live_box hx
      obtain ⟨h3, l, h4, h5⟩ := hr ls0 hx0
      exact ⟨by simpa using h3, l, by rw [h2]; exact h4, by rw [h5, ← List.map_take, sumsz_ren]⟩
    · trivial
  | ip id j i =>
    simp only [renSV]
    split
    · rename_i id' e
      obtain ⟨h1, h2⟩ := h.hp id id' e
      obtain ⟨hn, hr⟩ := hv
      refine ⟨by rw [h1, renHC_notYet]; exact hn, fun ls hx => ?_⟩
      rw [h1] at hx
      obtain ⟨ls0, hx0, rfl⟩ := live_box hx
      obtain ⟨h3, l, h4, h5⟩ := hr ls0 hx0
      have hm : (ls0.map (renSV ρ)).map SV.size = ls0.map SV.size := by rw [List.map_map]; congr 1; funext a; exact renSV_size ρ a
      exact ⟨by rw [hm]; exact h3, l, by rw [h2]; exact h4, by rw [h5, ← List.map_take, sumsz_ren]⟩
    · trivial
  | rp id ver t i p =>
    simp only [renSV]
    split
    · rename_i id' e
      obtain ⟨h1, h2⟩ := h.hp id id' e
      obtain ⟨hn, hr⟩ := hv
      refine ⟨by rw [h1, renHC_notYet]; exact hn, fun xs ver' hx => ?_⟩
      rw [h1] at hx
      rw [h2]
      exact hr xs ver' (live_row hx)
    · trivial

theorem SVC.ren {E E' : Env} {ρ : Nat → Option Nat} (h : Ren E E' ρ) {a : SV} {cs : List Value} (hv : SVC E a cs) : SVC E' (renSV ρ a) cs := by
  cases a with
  | c t x => show KC E'.w E'.F t x cs; rw [h.w, h.F]; exact hv
  | _ =>
    obtain ⟨v, e, hv⟩ := hv
    have := hv.ren h
    revert this
    simp only [renSV]
    (try split) <;> exact fun this => ⟨v, e, this⟩
theorem CVR.ren {E E' : Env} {ρ : Nat → Option Nat} (h : Ren E E' ρ) {a : CV} {v : Value} (hv : CVR E a v) : CVR E' (renCV ρ a) v := by
  cases a with
  | one a => exact SVR.ren h hv
  | agg l => obtain ⟨cs, hs, e⟩ := hv; exact ⟨cs, hs.map fun _ _ h' => h'.ren h, e⟩
  | fn f caps => obtain ⟨vs, e, hs⟩ := hv; exact ⟨vs, e, hs.map fun _ _ ⟨v, e, h'⟩ => ⟨v, e, h'.ren h⟩⟩
theorem AVR.ren {E E' : Env} {ρ : Nat → Option Nat} (h : Ren E E' ρ) {a : AV} {v : Value} (hv : AVR E a v) : AVR E' (renAV ρ a) v := by
  cases a with
  | v a => exact CVR.ren h hv
  | tup l => obtain ⟨vs, e, hs⟩ := hv; exact ⟨vs, e, hs.map fun _ _ ⟨v, e, h'⟩ => ⟨v, e, h'.ren h⟩⟩

def noDup : List Nat → Bool
  | [] => true
  | a :: l => l.all (fun b => a != b) && noDup l

/-- What may be kept: roots of one's own, each once. -/
def keeps (n : Nat) (olds : List Nat) (hp : List HC) : Bool := n ≤ hp.length && olds.all (fun id => decide (n ≤ id) && decide (id < hp.length)) && noDup olds

theorem noDup_inj : ∀ {l : List Nat}, noDup l = true → ∀ i j x : Nat, l[i]? = some x → l[j]? = some x → i = j
  | a :: l, h, 0, 0, x, _, _ => rfl
  | a :: l, h, 0, j + 1, x, hi, hj => by
    simp only [noDup, Bool.and_eq_true] at h
    simp only [List.getElem?_cons_zero, Option.some.injEq] at hi
    subst hi
    have := List.all_eq_true.1 h.1 a (List.mem_of_getElem? (by simpa using hj))
    simp at this
  | a :: l, h, i + 1, 0, x, hi, hj => by
    simp only [noDup, Bool.and_eq_true] at h
    simp only [List.getElem?_cons_zero, Option.some.injEq] at hj
    subst hj
    have := List.all_eq_true.1 h.1 a (List.mem_of_getElem? (by simpa using hi))
    simp at this
  | a :: l, h, i + 1, j + 1, x, hi, hj => by
    simp only [noDup, Bool.and_eq_true] at h
    have := noDup_inj h.2 i j x (by simpa using hi) (by simpa using hj)
    omega

theorem trim_env {n : Nat} {olds : List Nat} {w0 : World} {S : Who} {E0 E : Env} (hk : keeps n olds E.hp = true) (h : HR w0 S E) (hle : LeN n E0 E) :
    ∃ E', Ren E E' (rho n olds) ∧ E'.hp = trimHp n olds E.hp ∧ HR w0 S E' ∧ LeN n E0 E' := by
  simp only [keeps, Bool.and_eq_true, decide_eq_true_eq] at hk
  obtain ⟨⟨hn, hall⟩, hnd⟩ := hk
  have hall' : ∀ k x : Nat, olds[k]? = some x → n ≤ x ∧ x < E.hp.length := fun k x hx => by
    have := List.all_eq_true.1 hall x (List.mem_of_getElem? hx)
    simpa using this
  let loc' : Nat → Option Loc := fun id => if id < n then E.loc id else (olds[id - n]?).bind E.loc
  let E' : Env := { w := E.w, F := E.F, loc := loc', hp := trimHp n olds E.hp }
  -- where an id of the new one comes from
  have low : ∀ id, id < n → E'.hp[id]? = (E.hp[id]?).map (renHC (rho n olds)) := fun id hi => by
    show (trimHp n olds E.hp)[id]? = _
    unfold trimHp
    rw [List.getElem?_append_left (by rw [List.length_map, List.length_take]; omega), List.getElem?_map, List.getElem?_take_of_lt hi]
  have high : ∀ k, E'.hp[n + k]? = (olds[k]?).map fun id => renHC (rho n olds) (E.hp.getD id .dead) := fun k => by
    show (trimHp n olds E.hp)[n + k]? = _
    unfold trimHp
    rw [List.getElem?_append_right (by rw [List.length_map, List.length_take]; omega), List.length_map, List.length_take, Nat.min_eq_left hn, Nat.add_sub_cancel_left, List.getElem?_map]
  have hren : Ren E E' (rho n olds) := by
    refine ⟨rfl, rfl, fun id id' he => ?_⟩
    unfold rho at he
    split at he
    · rename_i hi
      simp only [Option.some.injEq] at he
      subst he
      exact ⟨low id hi, by show loc' id = _; simp only [loc', if_pos hi]⟩
    · simp only [Option.map_eq_some_iff] at he
      obtain ⟨k, he, rfl⟩ := he
      have hx := idx_some he
      obtain ⟨h1, h2⟩ := hall' k id hx
      refine ⟨?_, ?_⟩
      · rw [high, hx, List.getElem?_eq_getElem h2]
        simp [List.getD_eq_getElem?_getD, List.getElem?_eq_getElem h2]
      · show loc' (n + k) = _
        simp only [loc', if_neg (show ¬ n + k < n by omega), Nat.add_sub_cancel_left, hx, Option.bind_some]
  -- every live root of the new one is one of the elder one's
  have from' : ∀ (id' : Nat) r', E'.hp[id']? = some (.live r') → ∃ id r, rho n olds id = some id' ∧ E.hp[id]? = some (.live r) ∧ renHC (rho n olds) (.live r) = .live r' ∧ E'.loc id' = E.loc id := by
    intro id' r' hx
    rcases Nat.lt_or_ge id' n with hi | hi
    · rw [low id' hi] at hx
      cases hc : E.hp[id']? with
      | none => rw [hc] at hx; cases hx
      | some c =>
        rw [hc] at hx
        simp only [Option.map_some, Option.some.injEq] at hx
        cases c with
        | live r => exact ⟨id', r, by simp [rho, hi], hc, hx, by show loc' id' = _; simp only [loc', if_pos hi]⟩
        | _ => simp [renHC] at hx
    · obtain ⟨k, rfl⟩ : ∃ k, id' = n + k := ⟨id' - n, by omega⟩
      rw [high] at hx
      cases hx0 : olds[k]? with
      | none => rw [hx0] at hx; cases hx
      | some id =>
        rw [hx0] at hx
        simp only [Option.map_some, Option.some.injEq] at hx
        obtain ⟨h1, h2⟩ := hall' k id hx0
        have hg : E.hp.getD id .dead = E.hp[id] := by simp [List.getD_eq_getElem?_getD, List.getElem?_eq_getElem h2]
        rw [hg] at hx
        have hl : E.hp[id]? = some E.hp[id] := List.getElem?_eq_getElem h2
        cases hc : E.hp[id] with
        | live r =>
          rw [hc] at hx hl
          have hidx : idx olds id = some k := by
            have : ∀ (l : List Nat) (k : Nat), noDup l = true → l[k]? = some id → idx l id = some k := by
              intro l
              induction l with
              | nil => intro k _ h; simp at h
              | cons a l ih =>
                intro k hnd hk
                simp only [idx]
                cases k with
                | zero => simp only [List.getElem?_cons_zero, Option.some.injEq] at hk; rw [if_pos hk]
                | succ k =>
                  have hne : a ≠ id := fun e => by
                    have := noDup_inj hnd 0 (k + 1) id (by simp [e]) hk
                    omega
                  simp only [noDup, Bool.and_eq_true] at hnd
                  rw [if_neg hne, ih k hnd.2 (by simpa using hk)]; rfl
            exact this olds k hnd hx0
          exact ⟨id, r, by simp only [rho, if_neg (show ¬ id < n by omega), hidx, Option.map_some], hl, hx, by
            show loc' (n + k) = _
            simp only [loc', if_neg (show ¬ n + k < n by omega), Nat.add_sub_cancel_left, hx0, Option.bind_some]⟩
        | _ => rw [hc] at hx; simp [renHC] at hx
  have rhoinj : ∀ a b c, rho n olds a = some c → rho n olds b = some c → a = b := by
    intro a b c ha hb
    unfold rho at ha hb
    split at ha
    · split at hb
      · simp only [Option.some.injEq] at ha hb; omega
      · simp only [Option.some.injEq, Option.map_eq_some_iff] at ha hb
        obtain ⟨k, _, e⟩ := hb; omega
    · split at hb
      · simp only [Option.some.injEq, Option.map_eq_some_iff] at ha hb
        obtain ⟨k, _, e⟩ := ha; omega
      · simp only [Option.map_eq_some_iff] at ha hb
        obtain ⟨k, h1, e1⟩ := ha
        obtain ⟨k', h2, e2⟩ := hb
        have : k = k' := by omega
        subst this
        have h1 := idx_some h1
        have h2 := idx_some h2
        rw [h1] at h2
        simpa using h2
  refine ⟨E', hren, rfl, ?_, ?_⟩
  · refine ⟨fun id' r' hx => ?_, fun i j ri rj li lj hi hj hli hlj e => ?_, fun i r l hx hl => ?_, fun i r l hx hl => ?_, fun i r l hx hl => ?_, h.Fin, h.Fold, h.old, h.size, h.os, h.tape, h.output⟩
    · obtain ⟨id, r, h1, h2, h3, h4⟩ := from' id' r' hx
      have hr := h.root id r h2
      cases r with
      | box ls =>
        simp only [renHC, HC.live.injEq] at h3
        subst h3
        obtain ⟨l, ty, cells, g1, g2, g3⟩ := hr
        exact ⟨l, ty, cells, h4.trans g1, g2, g3.map fun _ _ h' => h'.ren hren⟩
      | row t xs ver =>
        simp only [renHC, HC.live.injEq] at h3
        subst h3
        simp only [RootR] at hr ⊢
        rw [h4]
        exact hr
    · obtain ⟨a, ra, h1, h2, _, h3⟩ := from' i ri hi
      obtain ⟨b, rb, h4, h5, _, h6⟩ := from' j rj hj
      have := h.inj a b ra rb li lj h2 h5 (h3 ▸ hli) (h6 ▸ hlj) e
      subst this
      rw [h1] at h4
      simpa using h4
    · obtain ⟨a, ra, h1, h2, _, h3⟩ := from' i r hx
      exact h.notF a ra l h2 (h3 ▸ hl)
    · obtain ⟨a, ra, h1, h2, _, h3⟩ := from' i r hx
      exact h.may a ra l h2 (h3 ▸ hl)
    · obtain ⟨a, ra, h1, h2, _, h3⟩ := from' i r hx
      exact h.inside a ra l h2 (h3 ▸ hl)
  · refine hle.trans ⟨fun _ h => h, fun _ _ => rfl, fun id hi hn' => ?_, fun id t xs' ver' hi hn' hx => ?_, fun id ls' hi hn' hx => ?_⟩
    · rw [low id hi, renHC_notYet] at hn'; exact hn'
    · rw [low id hi] at hx
      exact ⟨xs', ver', live_row hx, Nat.le_refl _, fun _ => ⟨Nat.le_refl _, by show loc' id = _; simp only [loc', if_pos hi]⟩⟩
    · rw [low id hi] at hx
      obtain ⟨ls0, h1, rfl⟩ := live_box hx
      exact ⟨ls0, h1, by rw [List.map_map]; congr 1; funext a; exact (renSV_size _ a).symm, by show loc' id = _; simp only [loc', if_pos hi]⟩

/-- Which slots are kept. -/
def keepT (ρ : Nat → Option Nat) (keep : List Nat) : Nat → List AV → List AV
  | _, [] => []
  | i, a :: l => (if keep.contains i then renAV ρ a else .v (.one .u)) :: keepT ρ keep (i + 1) l

theorem keepT_length (ρ : Nat → Option Nat) (keep : List Nat) : ∀ (i : Nat) (l : List AV), (keepT ρ keep i l).length = l.length
  | _, [] => rfl
  | i, a :: l => by simp only [keepT, List.length_cons, keepT_length ρ keep (i + 1) l]

theorem keepT_get (ρ : Nat → Option Nat) (keep : List Nat) : ∀ (i : Nat) (l : List AV) (k : Nat) (b : AV), (keepT ρ keep i l)[k]? = some b → b = .v (.one .u) ∨ ∃ a, l[k]? = some a ∧ b = renAV ρ a
  | i, a :: l, 0, b, h => by
    simp only [keepT, List.getElem?_cons_zero, Option.some.injEq] at h
    subst h
    split
    · exact .inr ⟨a, rfl, rfl⟩
    · exact .inl rfl
  | i, a :: l, k + 1, b, h => by
    simp only [keepT, List.getElem?_cons_succ] at h
    simpa using keepT_get ρ keep (i + 1) l k b h

def trim (n : Nat) (keep olds : List Nat) (st : St) : St := ⟨keepT (rho n olds) keep 0 st.tm, trimHp n olds st.hp⟩

theorem Weak.trim {n : Nat} {keep olds : List Nat} {st : St} (hk : keeps n olds st.hp = true) : Weak n st (trim n keep olds st) := by
  intro w0 S E0 E tmps h1 h2 h3 h4
  rw [← h2] at hk
  obtain ⟨E', hren, e1, e2, e3⟩ := trim_env hk h1 h4
  refine ⟨E', hren.w, by rw [e1, h2]; rfl, e2, ⟨by rw [Ev.trim, keepT_length]; exact h3.1, fun t => ?_⟩, e3⟩
  rw [List.getD_eq_getElem?_getD]
  cases hc : (keepT (rho n olds) keep 0 st.tm)[t]? with
  | none => simp only [Ev.trim, hc]; trivial
  | some b =>
    simp only [Ev.trim, hc, Option.getD_some]
    rcases keepT_get _ _ _ _ _ _ hc with rfl | ⟨a, ha, rfl⟩
    · trivial
    · have := h3.2 t
      rw [List.getD_eq_getElem?_getD, ha] at this
      exact this.ren hren

/-- Nothing but what may be made is added. -/
theorem Rel.fresh {w0 : World} {S : Who} {E0 : Env} {n : Nat} {st : St} {a : Act} {w : World} (h : Rel w0 S E0 n st a w) (k : Nat) : Rel w0 S E0 n ⟨st.tm, st.hp ++ List.replicate k .fresh⟩ a w := by
  obtain ⟨E, rfl, h2, h3, h4, h5, h6⟩ := h
  let E' : Env := { E with hp := E.hp ++ List.replicate k .fresh }
  have get : ∀ id : Nat, E'.hp[id]? = E.hp[id]? ∨ (E.hp[id]? = none ∧ E'.hp[id]? = some .fresh) := fun id => by
    show (E.hp ++ List.replicate k .fresh)[id]? = _ ∨ (_ ∧ (E.hp ++ List.replicate k .fresh)[id]? = _)
    rcases Nat.lt_or_ge id E.hp.length with hi | hi
    · exact .inl (List.getElem?_append_left hi)
    · rw [List.getElem?_append_right hi, List.getElem?_replicate]
      split
      · exact .inr ⟨List.getElem?_eq_none hi, rfl⟩
      · exact .inl (List.getElem?_eq_none hi).symm
  have live : ∀ (id : Nat) r, E'.hp[id]? = some (.live r) → E.hp[id]? = some (.live r) := fun id r hx => by
    rcases get id with e | ⟨_, e⟩
    · rw [← e]; exact hx
    · rw [e] at hx; cases hx
  have le : Le E E' := ⟨fun _ h => h, fun _ _ => rfl, fun id hn => by
      rcases get id with e | ⟨e, _⟩
      · rw [← e]; exact hn
      · rw [e]; trivial, fun id t xs ver _ hx => ⟨xs, ver, live _ _ hx, Nat.le_refl _, fun _ => ⟨Nat.le_refl _, rfl⟩⟩, fun id ls _ hx => ⟨ls, live _ _ hx, rfl, rfl⟩⟩
  refine ⟨E', rfl, by show E.hp ++ _ = _; rw [h2], ?_, h4.le le, h5.trans (le.n n), h6⟩
  exact ⟨fun id r hx => RootR.le le rfl (fun _ _ => rfl) (h3.root id r (live _ _ hx)), fun i j ri rj li lj a b => h3.inj i j ri rj li lj (live _ _ a) (live _ _ b), fun i r l a => h3.notF i r l (live _ _ a),
    fun i r l a => h3.may i r l (live _ _ a), fun i r l a => h3.inside i r l (live _ _ a), h3.Fin, h3.Fold, h3.old, h3.size, h3.os, h3.tape, h3.output⟩

end Go.Proofs.Ytgkjgpiggjjmpaa.Ev
