/- Lemmas for the claim: Calls that see their caller's memory as it stands, and write none of it. (no condition.) -/
import Derived.Test.YtgkjgpiggjjmpaaEv20
/-! Calls that see their caller's memory as it stands, and write none of it. -/
namespace Go.Proofs.Ytgkjgpiggjjmpaa.Ev
open Go
set_option linter.unusedVariables false

def leafC (hp : List HC) : SV → Option SV
  | .c t x => some (.c t x)
  | .nl t => some (.c (.sl t) [])
  | .ref id ver t off len => (rowOf hp id ver t).map fun xs => .c (.sl t) ((xs.drop off).take len)
  | _ => none

def snapSV (hp : List HC) : SV → Option SV
  | .bp id j => match boxOf hp id with
    | some ls => match ls[j]? with
      | some a => match leafC hp a with
        | some (.c t x) => some (.cp t x)
        | _ => none
      | none => none
    | none => none
  | .cp t x => some (.cp t x)
  | .u => some .u
  | a => leafC hp a

def snaps (hp : List HC) : List SV → Option (List SV)
  | [] => some []
  | a :: l => match snapSV hp a, snaps hp l with
    | some b, some m => some (b :: m)
    | _, _ => none

def snapCV (hp : List HC) : CV → Option CV
  | .one a => (snapSV hp a).map .one
  | .agg l => (snaps hp l).map .agg
  | .fn f caps => (snaps hp caps).map (.fn f)

def snapArgs (hp : List HC) : List CV → Option (List CV)
  | [] => some []
  | a :: l => match snapCV hp a, snapArgs hp l with
    | some b, some m => some (b :: m)
    | _, _ => none

def still (E : Env) : Env := { w := E.w, F := fun b => E.F b ∨ ∃ (id : Nat) (r : Root) (l : Loc), E.hp[id]? = some (.live r) ∧ E.loc id = some l ∧ b = l.b, loc := fun _ => none, hp := [] }

section
variable {P : Program} {w0 : World} {S S' : Who} {E E1 : Env} {F : Nat → Prop}

theorem leafC_ok (h : HR w0 S E) {a b : SV} (hb : leafC E.hp a = some b) {cs : List Value} (hv : SVC E a cs) : ∃ t x, b = .c t x ∧ KC (still E).w (still E).F t x cs := by
  cases a with
  | c t x =>
    simp only [leafC, Option.some.injEq] at hb
    subst hb
    exact ⟨t, x, rfl, KC.move (fun _ h => .inl h) (fun _ _ => rfl) hv⟩
  | nl t =>
    simp only [leafC, Option.some.injEq] at hb
    subst hb
    obtain ⟨v, rfl, hv⟩ := hv
    rw [show v = _ from hv]
    exact ⟨.sl t, [], rfl, none, 0, rfl, ⟨Nat.le_refl 0, Nat.zero_le _⟩, fun h => absurd rfl h⟩
  | ref id ver t off len =>
    simp only [leafC, Option.map_eq_some_iff] at hb
    obtain ⟨xs, hxs, rfl⟩ := hb
    obtain ⟨v, rfl, hv⟩ := hv
    have hbx := rowOf_some hxs
    obtain ⟨hn, hv1⟩ := hv
    obtain ⟨_, hv2⟩ := hv1 xs ver hbx
    obtain ⟨hlen, hv3⟩ := hv2 rfl
    have hroot := h.root id _ hbx
    simp only [RootR] at hroot
    refine ⟨.sl t, _, rfl, ?_⟩
    have hl : ((xs.drop off).take len).length = len := by rw [List.length_take, List.length_drop]; omega
    cases hloc : E.loc id with
    | none =>
      rw [hloc] at hroot hv3
      subst hroot
      simp at hlen
      obtain ⟨rfl, rfl⟩ := hlen
      exact ⟨none, 0, by rw [hv3]; rfl, ⟨Nat.le_refl 0, Nat.zero_le _⟩, fun h => absurd (by simp) h⟩
    | some l =>
      rw [hloc] at hroot hv3
      obtain ⟨ty, cells, hc, hcap, hlen2, hrow⟩ := hroot
      obtain ⟨A, rfl, hA⟩ := hv3
      refine ⟨A, l.cap - off, by rw [hl], by rw [hl]; omega, fun hne => ?_⟩
      have hpos : 0 < len := by
        rcases Nat.eq_zero_or_pos len with e | e
        · subst e; simp at hne
        · exact e
      refine ⟨l.b, _, hA (by omega), .inr ⟨id, _, l, hbx, hloc, rfl⟩, fun i x hx => ?_⟩
      rw [List.getElem?_take, List.getElem?_drop] at hx
      split at hx
      · obtain ⟨ec, h3, h4⟩ := hrow (off + i) x hx
        exact ⟨ec, KC.move (fun _ h => .inl h) (fun _ _ => rfl) h3, by rw [Nat.add_mul, ← Nat.add_assoc] at h4; exact h4⟩
      · cases hx
  | _ => simp [leafC] at hb

theorem svc_of_svr {a : SV} {v : Value} (h : SVR E a v) (ha : ∀ t x, a ≠ .c t x) : SVC E a [v] := by
  cases a with
  | c t x => exact absurd rfl (ha t x)
  | _ => exact ⟨v, rfl, h⟩

theorem snapSV_ok (h : HR w0 S E) {a b : SV} (hb : snapSV E.hp a = some b) {v : Value} (hv : SVR E a v) : SVR (still E) b v := by
  cases a with
  | u => simp only [snapSV, Option.some.injEq] at hb; subst hb; trivial
  | cp t x =>
    simp only [snapSV, Option.some.injEq] at hb
    subst hb
    obtain ⟨b, o, cs, e, hF, hk, hc⟩ := hv
    exact ⟨b, o, cs, e, .inl hF, KC.move (fun _ h => .inl h) (fun _ _ => rfl) hk, hc⟩
  | c t x =>
    simp only [snapSV, leafC, Option.some.injEq] at hb
    subst hb
    obtain ⟨cs, hk, e⟩ := hv
    exact ⟨cs, KC.move (fun _ h => .inl h) (fun _ _ => rfl) hk, e⟩
  | nl t =>
    obtain ⟨t', x, rfl, hk⟩ := leafC_ok (a := .nl t) h hb (svc_of_svr hv (by simp))
    simp only [snapSV, leafC, Option.some.injEq, SV.c.injEq] at hb
    obtain ⟨rfl, _⟩ := hb
    exact ⟨_, hk, rfl⟩
  | ref id ver t off len =>
    obtain ⟨t', x, rfl, hk⟩ := leafC_ok (a := .ref id ver t off len) h hb (svc_of_svr hv (by simp))
    simp only [snapSV, leafC, Option.map_eq_some_iff, SV.c.injEq] at hb
    obtain ⟨xs, _, rfl, _⟩ := hb
    exact ⟨_, hk, rfl⟩
  | bp id j =>
    simp only [snapSV] at hb
    split at hb
    · rename_i ls hls
      split at hb
      · rename_i a ha
        split at hb
        · rename_i t x hx
          simp only [Option.some.injEq] at hb
          subst hb
          have hbx := boxOf_some hls
          obtain ⟨hn, hv⟩ := hv
          obtain ⟨hj, l, hl, rfl⟩ := hv ls hbx
          obtain ⟨l', ty, cells, h1, h2, h3⟩ := h.root id _ hbx
          rw [hl] at h1
          simp only [Option.some.injEq] at h1
          subst h1
          obtain ⟨c1, c2, c3, e, hc1, hs⟩ := segs_box h3 j 1
          have hd : (ls.drop j).take 1 = [a] := by
            have hjl : j < ls.length := (List.getElem?_eq_some_iff.1 ha).1
            rw [List.drop_eq_getElem_cons hjl]
            have : ls[j] = a := by rw [List.getElem?_eq_getElem hjl] at ha; simpa using ha
            rw [this]; rfl
          rw [hd] at hs
          obtain ⟨d1, d2, e2, hd1, hd2⟩ := hs
          cases hd2
          rw [List.append_nil] at e2
          subst e2
          obtain ⟨t', x', hxx, hk⟩ := leafC_ok h hx hd1
          simp only [SV.c.injEq] at hxx
          obtain ⟨rfl, hxx⟩ := hxx
          cases hxx
          have hcs := cellsAt_heap h2
          rw [e] at hcs
          exact ⟨l.b, _, _, rfl, .inr ⟨id, _, l, hbx, hl, rfl⟩, hk, by have := hcs.seg; rw [hc1, Nat.zero_add] at this; exact this⟩
        · cases hb
      · cases hb
    · cases hb
  | _ => simp [snapSV, leafC] at hb

theorem snapSVC_ok (h : HR w0 S E) {a b : SV} (hb : snapSV E.hp a = some b) {cs : List Value} (hv : SVC E a cs) : SVC (still E) b cs := by
  cases a with
  | c t x =>
    simp only [snapSV, leafC, Option.some.injEq] at hb
    subst hb
    exact KC.move (fun _ h => .inl h) (fun _ _ => rfl) hv
  | nl t =>
    obtain ⟨t', x, rfl, hk⟩ := leafC_ok (a := .nl t) h hb hv
    exact hk
  | ref id ver t off len =>
    obtain ⟨t', x, rfl, hk⟩ := leafC_ok (a := .ref id ver t off len) h hb hv
    exact hk
  | bp id j =>
    obtain ⟨v, rfl, hv⟩ := hv
    have := snapSV_ok h hb hv
    simp only [snapSV] at hb
    split at hb
    · split at hb
      · split at hb
        · simp only [Option.some.injEq] at hb; subst hb; exact ⟨v, rfl, this⟩
        · cases hb
      · cases hb
    · cases hb
  | cp t x =>
    obtain ⟨v, rfl, hv⟩ := hv
    have := snapSV_ok h hb hv
    simp only [snapSV, Option.some.injEq] at hb
    subst hb
    exact ⟨v, rfl, this⟩
  | u =>
    obtain ⟨v, rfl, hv⟩ := hv
    simp only [snapSV, Option.some.injEq] at hb
    subst hb
    exact ⟨v, rfl, trivial⟩
  | _ => simp [snapSV, leafC] at hb

theorem snaps_ok {R R' : SV → List Value → Prop} (h : ∀ a b cs, snapSV E.hp a = some b → R a cs → R' b cs) : ∀ {l m : List SV} {cs : List Value}, snaps E.hp l = some m → Segs R l cs → Segs R' m cs
  | [], m, cs, hs, hv => by
    simp only [snaps, Option.some.injEq] at hs
    subst hs
    exact hv
  | a :: l, m, cs, hs, ⟨c1, c2, e, h1, h2⟩ => by
    simp only [snaps] at hs
    split at hs
    · rename_i b m' hb hm
      simp only [Option.some.injEq] at hs
      subst hs
      exact ⟨c1, c2, e, h a b c1 hb h1, snaps_ok h hm h2⟩
    · cases hs

theorem snapCV_ok (h : HR w0 S E) {a b : CV} (hb : snapCV E.hp a = some b) {v : Value} (hv : CVR E a v) : CVR (still E) b v := by
  cases a with
  | one a =>
    simp only [snapCV, Option.map_eq_some_iff] at hb
    obtain ⟨b', hb, rfl⟩ := hb
    exact snapSV_ok h hb hv
  | agg l =>
    simp only [snapCV, Option.map_eq_some_iff] at hb
    obtain ⟨b', hb, rfl⟩ := hb
    obtain ⟨cs, hs, e⟩ := hv
    exact ⟨cs, snaps_ok (R' := SVC (still E)) (fun a b cs hb hv => snapSVC_ok h hb hv) hb hs, e⟩
  | fn f caps =>
    simp only [snapCV, Option.map_eq_some_iff] at hb
    obtain ⟨b', hb, rfl⟩ := hb
    obtain ⟨vs, e, hs⟩ := hv
    exact ⟨vs, e, snaps_ok (fun a b cs hb ⟨v, e, hv⟩ => ⟨v, e, snapSV_ok h hb hv⟩) hb hs⟩

theorem snapArgs_ok (h : HR w0 S E) : ∀ {l m : List CV} {vs : List Value}, snapArgs E.hp l = some m → Segs (fun a cs => ∃ v, cs = [v] ∧ CVR E a v) l vs → Segs (fun a cs => ∃ v, cs = [v] ∧ CVR (still E) a v) m vs
  | [], m, cs, hs, hv => by
    simp only [snapArgs, Option.some.injEq] at hs
    subst hs
    exact hv
  | a :: l, m, cs, hs, ⟨c1, c2, e, ⟨v, e1, h1⟩, h2⟩ => by
    simp only [snapArgs] at hs
    split at hs
    · rename_i b m' hb hm
      simp only [Option.some.injEq] at hs
      subst hs
      exact ⟨c1, c2, e, ⟨v, e1, snapCV_ok h hb h1⟩, snapArgs_ok h hm h2⟩
    · cases hs

/-- A call that is shown what its arguments lead to as it stands. -/
theorem iso1 {k : Nat} {args args' : List CV} {hp : List HC} {K : AV → List HC → Prop} (hs : snapArgs hp args = some args')
    (h : ACall P k args' [] fun r h => (r.flat = true ∧ h.all HC.flat = true) ∧ K (renAV (up hp.length) r) (hp ++ h.map (renHC (up hp.length)))) : ACall P k args hp K := by
  refine ⟨h.1, fun w0 S E vs hR hE hargs => ?_⟩
  subst hE
  let S' : Who := ⟨fun _ => False, (still E).F, fun _ h => h.elim⟩
  have h0 : HR E.w S' (still E) := ⟨fun id r hx => by simp [still] at hx, fun i j ri rj li lj hx => by simp [still] at hx, fun i r l hx => by simp [still] at hx, fun i r l hx => by simp [still] at hx, fun i r l hx => by simp [still] at hx,
    fun b hb => by
      rcases hb with hb | ⟨id, r, l, h1, h2, rfl⟩
      · exact hR.Fin b hb
      · exact hR.inside id r l h1 h2, fun b hb _ => hb, fun _ _ _ => rfl, Nat.le_refl _, rfl, rfl, rfl⟩
  refine (h.2 E.w S' (still E) vs h0 rfl (snapArgs_ok hR hs hargs)).mono ?_
  rintro e w' ⟨r, E1, v, rfl, ⟨⟨hf1, hf2⟩, hK⟩, rfl, hle, h1, hv⟩
  have hren : Ren ({ E1 with F := E.F } : Env) (E.join E1 E.F) (up E.hp.length) := ⟨rfl, rfl, (join_ren E E1).hp⟩
  obtain ⟨g1, g2⟩ := join_ok (F := E.F) hR h1 (fun _ h => h) (fun _ h => h) (fun b hb => hle.F b (.inl hb)) (fun b hb hlt => hb)
    (fun id r hx r' e => RootR.ren hren rfl (RootR.flat' (E := E1) (E' := { E1 with F := E.F }) rfl rfl rfl (List.all_eq_true.1 hf2 _ (List.mem_of_getElem? hx)) (h1.root id r hx)) e)
  exact ⟨_, E.join E1 E.F, v, rfl, hK, rfl, g1, g2, (AVR.flat' (E := E1) (E' := { E1 with F := E.F }) rfl rfl hf1 hv).ren hren⟩
end
end Go.Proofs.Ytgkjgpiggjjmpaa.Ev
