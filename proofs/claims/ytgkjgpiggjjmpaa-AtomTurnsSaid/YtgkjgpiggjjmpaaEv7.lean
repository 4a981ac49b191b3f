/- Lemmas for the claim: Stores. (no condition.) -/
import Derived.Test.YtgkjgpiggjjmpaaEv6
/-! Stores. -/
namespace Go.Proofs.Ytgkjgpiggjjmpaa.Ev
open Go
set_option linter.unusedVariables false

def setp : (t : Ty) → t.D → List Step → (u : Ty) → u.D → Option t.D
  | t, _, [], u, y => if h : u = t then some (cast (congrArg Ty.D h) y) else none
  | .pair a b, x, .fst :: p, u, y => (setp a x.1 p u y).map fun z => (z, x.2)
  | .pair a b, x, .snd :: p, u, y => (setp b x.2 p u y).map fun z => (x.1, z)
  | .arr n e, x, .ix i :: p, u, y => (setp e (List.getD x i e.z) p u y).map fun z => List.set x i z
  | _, _, _, _, _ => none

theorem setp_nil {t u : Ty} {x : t.D} {y : u.D} {z : t.D} (h : setp t x [] u y = some z) : ∃ e : u = t, z = e ▸ y := by
  have : setp t x [] u y = if h : u = t then some (cast (congrArg Ty.D h) y) else none := by cases t <;> rfl
  rw [this] at h
  split at h
  · rename_i e
    subst e
    simp at h
    exact ⟨rfl, h.symm⟩
  · cases h

theorem setp_self (t : Ty) (x y : t.D) : setp t x [] t y = some y := by
  have : setp t x [] t y = if h : t = t then some (cast (congrArg Ty.D h) y) else none := by cases t <;> rfl
  rw [this, dif_pos rfl]; rfl

theorem KC.setp {w : World} {F : Nat → Prop} : ∀ {t : Ty} {x : t.D} {cs : List Value} {p : List Step} {u : Ty} {y : u.D} {x' : t.D} {ys : List Value}, KC w F t x cs → Ev.setp t x p u y = some x' → KC w F u y ys →
    ∀ {d : Nat} {u' : Ty}, t.part p = some (d, u') → ∃ c1 c2 c3, cs = c1 ++ c2 ++ c3 ∧ c1.length = d ∧ c2.length = ys.length ∧ KC w F t x' (c1 ++ ys ++ c3) := by
  intro t x cs p
  induction p generalizing t cs with
  | nil =>
    intro u y x' ys hk hs hy d u' hp
    obtain ⟨rfl, rfl⟩ := setp_nil hs
    have e2 : u.part [] = some (0, u) := by cases u <;> rfl
    rw [e2] at hp
    simp only [Option.some.injEq, Prod.mk.injEq] at hp
    obtain ⟨rfl, rfl⟩ := hp
    exact ⟨[], cs, [], by simp, rfl, by rw [hk.len, hy.len], by simpa using hy⟩
  | cons s p ih =>
    intro u y x' ys hk hs hy d u' hp
    cases t with
    | pair a b =>
      obtain ⟨c1, c2, rfl, h1, h2⟩ := hk
      cases s with
      | fst =>
        simp only [Ev.setp, Option.map_eq_some_iff] at hs
        obtain ⟨z, hs, rfl⟩ := hs
        obtain ⟨d1, d2, d3, rfl, el, el2, hz⟩ := ih h1 hs hy hp
        exact ⟨d1, d2, d3 ++ c2, by simp, el, el2, d1 ++ ys ++ d3, c2, by simp, hz, h2⟩
      | snd =>
        simp only [Ev.setp, Option.map_eq_some_iff] at hs
        obtain ⟨z, hs, rfl⟩ := hs
        simp only [Ty.part, Option.map_eq_some_iff] at hp
        obtain ⟨⟨d0, t0⟩, hp, e0⟩ := hp
        simp only [Prod.mk.injEq] at e0
        obtain ⟨rfl, rfl⟩ := e0
        obtain ⟨d1, d2, d3, rfl, el, el2, hz⟩ := ih h2 hs hy hp
        exact ⟨c1 ++ d1, d2, d3, by simp, by rw [List.length_append, el, h1.len], el2, c1, d1 ++ ys ++ d3, by simp, h1, hz⟩
      | ix i => simp [Ev.setp] at hs
    | arr n e =>
      cases s with
      | ix i =>
        obtain ⟨hn, hk⟩ := hk
        simp only [Ev.setp, Option.map_eq_some_iff] at hs
        obtain ⟨z, hs, rfl⟩ := hs
        simp only [Ty.part] at hp
        split at hp
        · rename_i hi
          simp only [Option.map_eq_some_iff] at hp
          obtain ⟨⟨d0, t0⟩, hp, e0⟩ := hp
          simp only [Prod.mk.injEq] at e0
          obtain ⟨rfl, rfl⟩ := e0
          have hlt : i < (x : List e.D).length := by omega
          have hx : (x : List e.D) = x.take i ++ ((x.getD i e.z) :: x.drop (i + 1)) := by
            rw [List.getD_eq_getElem?_getD, List.getElem?_eq_getElem hlt, Option.getD_some, List.getElem_cons_drop, List.take_append_drop]
          rw [hx] at hk
          obtain ⟨c1, c23, e1, h1, c2, c3, e2, h2, h3⟩ := hk.split
          obtain ⟨d1, d2, d3, e3, el, el2, hz⟩ := ih h2 hs hy hp
          refine ⟨c1 ++ d1, d2, d3 ++ c3, by rw [e1, e2, e3]; simp, ?_, el2, ?_, ?_⟩
          · rw [List.length_append, el, h1.length (fun _ _ h => h.len), List.length_take, Nat.min_eq_left (by omega)]
          · rw [List.length_set]; exact hn
          · rw [List.set_eq_take_append_cons_drop, if_pos hlt]
            have h4 : Segs (KC w F e) (z :: (x : List e.D).drop (i + 1)) ((d1 ++ ys ++ d3) ++ c3) := ⟨_, _, rfl, hz, h3⟩
            have := h1.append h4
            simpa using this
        · cases hp
      | fst => simp [Ev.setp] at hs
      | snd => simp [Ev.setp] at hs
    | int k => cases s <;> simp [Ev.setp] at hs
    | bool => cases s <;> simp [Ev.setp] at hs
    | str => cases s <;> simp [Ev.setp] at hs
    | unit => cases s <;> simp [Ev.setp] at hs
    | sl e => cases s <;> simp [Ev.setp] at hs

/-- A typed value out of pieces. -/
def asm : (t : Ty) → List SV → Option (t.D × List SV)
  | .pair a b, l => match asm a l with
    | some (x, l1) => match asm b l1 with
      | some (y, l2) => some ((x, y), l2)
      | none => none
    | none => none
  | .unit, l => some ((), l)
  | t, .c t' x :: l => if h : t' = t then some (cast (congrArg Ty.D h) x, l) else none
  | .sl e, .nl _ :: l => some ([], l)
  | _, _ => none

/-- A value of that type, nothing of which is owned. -/
def toT : (t : Ty) → CV → Option t.D
  | t, .one (.c t' x) => if h : t' = t then some (cast (congrArg Ty.D h) x) else none
  | .sl e, .one (.nl _) => some []
  | t, .agg l => if t.isPair then (match asm t l with
    | some (x, []) => some x
    | _ => none) else none
  | _, _ => none

theorem mkv_cells {w : World} {F : Nat → Prop} {t : Ty} {x : t.D} {cs : List Value} (hk : KC w F t x cs) : (mkv t cs).cells.toList = cs := by
  unfold mkv
  split
  · rfl
  · rename_i h1
    cases t with
    | int k => rw [show cs = _ from hk]; rfl
    | bool => rw [show cs = _ from hk]; rfl
    | str => rw [show cs = _ from hk]; rfl
    | sl e => obtain ⟨A, c, rfl, _⟩ := hk; rfl
    | _ => simp [Ty.isAgg] at h1

theorem asm_ok {E : Env} : ∀ {t : Ty} {l l' : List SV} {x : t.D} {cs : List Value}, asm t l = some (x, l') → Segs (SVC E) l cs → ∃ c1 c2, cs = c1 ++ c2 ∧ KC E.w E.F t x c1 ∧ Segs (SVC E) l' c2 := by
  intro t
  have leaf : ∀ {t : Ty} {l l' : List SV} {x : t.D} {cs : List Value}, (∀ a b, t ≠ .pair a b) → t ≠ .unit → asm t l = some (x, l') → Segs (SVC E) l cs → ∃ c1 c2, cs = c1 ++ c2 ∧ KC E.w E.F t x c1 ∧ Segs (SVC E) l' c2 := by
    intro t l l' x cs hp hu h hs
    cases l with
    | nil => cases t <;> simp [asm] at h <;> first | exact absurd rfl (hp _ _) | exact absurd rfl hu
    | cons a l =>
      cases a with
      | c t' y =>
        have h' : (if h : t' = t then some (cast (congrArg Ty.D h) y, l) else none) = some (x, l') := by cases t <;> first | exact h | exact absurd rfl (hp _ _) | exact absurd rfl hu
        split at h'
        · rename_i e
          subst e
          simp only [cast_eq, Option.some.injEq, Prod.mk.injEq] at h'
          obtain ⟨rfl, rfl⟩ := h'
          obtain ⟨c1, c2, e, h1, h2⟩ := hs
          exact ⟨c1, c2, e, h1, h2⟩
        · cases h'
      | nl t' =>
        cases t with
        | sl e =>
          simp only [asm, Option.some.injEq, Prod.mk.injEq] at h
          obtain ⟨rfl, rfl⟩ := h
          obtain ⟨c1, c2, e', ⟨v, e1, hv⟩, h2⟩ := hs
          exact ⟨c1, c2, e', ⟨none, 0, by rw [e1, hv]; rfl, ⟨Nat.le_refl 0, Nat.zero_le _⟩, fun h => absurd rfl h⟩, h2⟩
        | pair a b => exact absurd rfl (hp _ _)
        | unit => exact absurd rfl hu
        | _ => simp [asm] at h
      | _ => cases t <;> simp [asm] at h <;> first | exact absurd rfl (hp _ _) | exact absurd rfl hu
  induction t with
  | pair a b iha ihb =>
    intro l l' x cs h hs
    simp only [asm] at h
    split at h
    · rename_i y l1 h1
      split at h
      · rename_i z l2 h2
        simp only [Option.some.injEq, Prod.mk.injEq] at h
        obtain ⟨rfl, rfl⟩ := h
        obtain ⟨c1, c2, rfl, hk1, hs1⟩ := iha h1 hs
        obtain ⟨c3, c4, rfl, hk2, hs2⟩ := ihb h2 hs1
        exact ⟨c1 ++ c3, c4, by simp, ⟨c1, c3, rfl, hk1, hk2⟩, hs2⟩
      · cases h
    · cases h
  | unit =>
    intro l l' x cs h hs
    simp only [asm, Option.some.injEq, Prod.mk.injEq] at h
    obtain ⟨_, rfl⟩ := h
    exact ⟨[], cs, rfl, rfl, hs⟩
  | _ => intro l l' x cs h hs; exact leaf (by intros; simp) (by simp) h hs

theorem toT_ok {E : Env} {t : Ty} {a : CV} {x : t.D} {v : Value} (h : toT t a = some x) (hv : CVR E a v) : ∃ cs, KC E.w E.F t x cs ∧ v.cells.toList = cs := by
  cases a with
  | one b =>
    cases b with
    | c t' y =>
      have h' : (if h : t' = t then some (cast (congrArg Ty.D h) y) else none) = some x := by cases t <;> exact h
      split at h'
      · rename_i e
        subst e
        simp only [cast_eq, Option.some.injEq] at h'
        subst h'
        obtain ⟨cs, hk, rfl⟩ := hv
        exact ⟨cs, hk, mkv_cells hk⟩
      · cases h'
    | nl t' =>
      cases t with
      | sl e =>
        simp only [toT, Option.some.injEq] at h
        subst h
        have : v = .slice none 0 0 := hv
        subst this
        exact ⟨[.slice none 0 0], ⟨none, 0, rfl, ⟨Nat.le_refl 0, Nat.zero_le _⟩, fun h => absurd rfl h⟩, rfl⟩
      | _ => simp [toT] at h
    | _ => cases t <;> simp [toT] at h
  | agg l =>
    have h' : (if t.isPair then (match asm t l with | some (x, []) => some x | _ => none) else none) = some x := by cases t <;> exact h
    split at h'
    · split at h'
      · rename_i y hy
        simp only [Option.some.injEq] at h'
        subst h'
        obtain ⟨cs, hs, rfl⟩ := hv
        obtain ⟨c1, c2, rfl, hk, h2⟩ := asm_ok hy hs
        cases h2
        exact ⟨c1, hk, by simp [Value.cells]⟩
      · cases h'
    · cases h'
  | fn f caps => cases t <;> simp [toT] at h

/-! ### Cells are written -/
theorem KC.one {w : World} {F : Nat → Prop} : ∀ {t : Ty} {x : t.D} {cs : List Value}, KC w F t x cs → ∀ v ∈ cs, v.oneCell' = true
  | .int _, _, _, h => by cases h; simp [Value.oneCell']
  | .bool, _, _, h => by cases h; simp [Value.oneCell']
  | .str, _, _, h => by cases h; simp [Value.oneCell']
  | .unit, _, _, h => by cases h; simp
  | .pair a b, _, _, ⟨c1, c2, e, h1, h2⟩ => by
    subst e
    intro v hv
    rcases List.mem_append.1 hv with hv | hv
    · exact h1.one v hv
    · exact h2.one v hv
  | .arr n e, xs, _, ⟨_, hs⟩ => by
    have key : ∀ (ys : List e.D) (cs : List Value), Segs (KC w F e) ys cs → ∀ v ∈ cs, v.oneCell' = true := by
      intro ys
      induction ys with
      | nil => intro cs hs; cases hs; simp
      | cons y ys ih =>
        intro cs hs v hv
        obtain ⟨c1, c2, rfl, h1, h2⟩ := hs
        rcases List.mem_append.1 hv with hv | hv
        · exact h1.one v hv
        · exact ih _ h2 v hv
    exact key _ _ hs
  | .sl e, _, _, ⟨A, c, e1, _⟩ => by subst e1; simp [Value.oneCell']

/-- A row of cells is written. -/
theorem run_storeCells {P : Program} {w : World} {b o : Nat} {ty : TypeId} : ∀ (vs : List Value) (i : Nat) (cells : Array Value) (c1 c2 c3 : List Value), w.heap[b]? = some (.cells cells ty (0, 0)) →
    cells.toList = c1 ++ c2 ++ c3 → c1.length = o + i → c2.length = vs.length → (∀ v ∈ vs, v.oneCell' = true) →
    ∃ w', (storeCells ⟨b, o, none⟩ vs i).run P w = .ok () w' ∧ w'.heap[b]? = some (.cells (c1 ++ vs ++ c3).toArray ty (0, 0)) ∧ (∀ k, k ≠ b → w'.heap[k]? = w.heap[k]?) ∧ w'.heap.size = w.heap.size ∧
      w'.os = w.os ∧ w'.tape = w.tape ∧ w'.output = w.output := by
  intro vs
  induction vs generalizing w with
  | nil =>
    intro i cells c1 c2 c3 hb hc h1 h2 _
    have : c2 = [] := List.eq_nil_of_length_eq_zero h2
    subst this
    refine ⟨w, by simp [storeCells], ?_, fun _ _ => rfl, rfl, rfl, rfl, rfl⟩
    rw [hb, ← Array.toArray_toList (xs := cells), hc]
  | cons v vs ih =>
    intro i cells c1 c2 c3 hb hc h1 h2 h3
    match c2, h2 with
    | x :: c2, h2 =>
      have hsz : cells.size = c1.length + (1 + c2.length) + c3.length := by
        rw [← Array.length_toList, hc]; simp; omega
      have hcell : w.cell? ⟨b, o + i, none⟩ = some x := by
        have := cellsAt_heap hb (o + i) x (by rw [hc, ← h1]; simp)
        simpa using this
      have hfr : w.frozen? ⟨b, o + i, none⟩ = false := by simp [World.frozen?, hb]
      have hv : v.oneCell' = true := h3 v (by simp)
      have hb' : (w.setCell ⟨b, o + i, none⟩ v).heap[b]? = some (.cells (cells.setIfInBounds (o + i) v) ty (0, 0)) := by
        simp [World.setCell, Array.getElem?_modify, hb]
      have hc' : (cells.setIfInBounds (o + i) v).toList = (c1 ++ [v]) ++ c2 ++ c3 := by
        rw [Array.toList_setIfInBounds, hc, ← h1, List.append_assoc, List.set_append_right _ _ (Nat.le_refl _)]
        simp
      obtain ⟨w', hr, h4, h5, h6, h7, h8, h9⟩ := ih (i + 1) (cells.setIfInBounds (o + i) v) (c1 ++ [v]) c2 c3 hb' hc' (by simp; omega) (by simpa using h2) (fun u hu => h3 u (by simp [hu]))
      refine ⟨w', ?_, by simpa using h4, fun k hk => ?_, ?_, h7, h8, h9⟩
      · simp only [storeCells, Sem.run_bind, add_off, run_store P w _ v .plain hv, hcell, hfr]
        simpa using hr
      · rw [h5 k hk]
        simp only [World.setCell, Array.getElem?_modify]
        rw [if_neg (by simpa using Ne.symm hk)]
      · rw [h6]; simp [World.setCell]

end Go.Proofs.Ytgkjgpiggjjmpaa.Ev
