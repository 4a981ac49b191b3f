/- Lemmas for the claim: A row that is not written any more. (no condition.) -/
import Derived.Test.YtgkjgpiggjjmpaaEv14
/-! A row that is not written any more. -/
namespace Go.Proofs.Ytgkjgpiggjjmpaa.Ev
open Go
set_option linter.unusedVariables false

def frzSV (hp : List HC) (id : Nat) : SV → SV
  | .ref id' ver t off len => if id' = id then (match rowOf hp id ver t with
    | some xs => .c (.sl t) ((xs.drop off).take len)
    | none => .ref id' ver t off len) else .ref id' ver t off len
  | a => a
def frzCV (hp : List HC) (id : Nat) : CV → CV
  | .one a => .one (frzSV hp id a)
  | .agg l => .agg (l.map (frzSV hp id))
  | .fn f caps => .fn f (caps.map (frzSV hp id))
def frzAV (hp : List HC) (id : Nat) : AV → AV
  | .v a => .v (frzCV hp id a)
  | .tup l => .tup (l.map (frzCV hp id))
def frzHC (hp : List HC) (id : Nat) : HC → HC
  | .live (.box ls) => .live (.box (ls.map (frzSV hp id)))
  | c => c
def isRow (hp : List HC) (id : Nat) : Bool := match hp[id]? with
  | some (.live (.row _ _ _)) => true
  | _ => false
def frzT (id : Nat) (tm : List AV) (hp : List HC) : List AV := tm.map (frzAV hp id)
def frzH (id : Nat) (hp : List HC) : List HC := (hp.map (frzHC hp id)).set id .dead

section
variable {P : Program} {w0 : World} {S : Who} {E : Env} {n : Nat}

theorem ref_frozen (h : HR w0 S E) {id ver : Nat} {t : Ty} {off len : Nat} {v : Value} {xs : List t.D} (hv : SVR E (.ref id ver t off len) v) (hxs : rowOf E.hp id ver t = some xs) {F : Nat → Prop} (hF : ∀ b, E.F b → F b) (hb : ∀ l, E.loc id = some l → F l.b) :
    KC E.w F (.sl t) ((xs.drop off).take len) [v] := by
  have hbx := rowOf_some hxs
  obtain ⟨hn, hv1⟩ := hv
  obtain ⟨_, hv2⟩ := hv1 xs ver hbx
  obtain ⟨hlen, hv3⟩ := hv2 rfl
  have hroot := h.root id _ hbx
  simp only [RootR] at hroot
  have hl : ((xs.drop off).take len).length = len := by rw [List.length_take, List.length_drop]; omega
  cases hloc : E.loc id with
  | none =>
    rw [hloc] at hroot hv3
    subst hroot
    simp at hlen
    obtain ⟨rfl, rfl⟩ := hlen
    exact ⟨none, 0, by rw [hv3]; rfl, ⟨Nat.le_refl 0, Nat.zero_le _⟩, fun h => absurd (by simp) h⟩
  | some l =>
    rw [hloc] at hroot hv3
    obtain ⟨ty, cells, hc, hcap, hlen2, hrow⟩ := hroot
    obtain ⟨A, rfl, hA⟩ := hv3
    refine ⟨A, l.cap - off, by rw [hl], by rw [hl]; omega, fun hne => ?_⟩
    have hpos : 0 < len := by
      rcases Nat.eq_zero_or_pos len with e | e
      · subst e; simp at hne
      · exact e
    refine ⟨l.b, _, hA (by omega), hb l hloc, fun i x hx => ?_⟩
    rw [List.getElem?_take, List.getElem?_drop] at hx
    split at hx
    · obtain ⟨ec, h3, h4⟩ := hrow (off + i) x hx
      exact ⟨ec, KC.move hF (fun _ _ => rfl) h3, by rw [Nat.add_mul, ← Nat.add_assoc] at h4; exact h4⟩
    · cases hx

theorem Segs.map {α β : Type} {R : α → List Value → Prop} {R' : β → List Value → Prop} {f : α → β} (h : ∀ x c, R x c → R' (f x) c) : ∀ {xs : List α} {cs : List Value}, Segs R xs cs → Segs R' (xs.map f) cs
  | [], _, hs => hs
  | _ :: _, _, ⟨c1, c2, e, h1, h2⟩ => ⟨c1, c2, e, h _ _ h1, h2.map h⟩

theorem frzSV_size (hp : List HC) (id : Nat) (a : SV) : (frzSV hp id a).size = a.size := by
  cases a with
  | ref id' ver t off len =>
    simp only [frzSV]
    split
    · split <;> rfl
    · rfl
  | _ => rfl

theorem frz_env (h : HR w0 S E) {id : Nat} (hi : isRow E.hp id = true) :
    ∃ E', E'.w = E.w ∧ E'.hp = (E.hp.map (frzHC E.hp id)).set id .dead ∧ HR w0 S E' ∧ Le E E' ∧ ∀ a v, AVR E a v → AVR E' (frzAV E.hp id a) v := by
  unfold isRow at hi
  split at hi
  · rename_i t0 xs0 ver0 hrow
    obtain ⟨le1, h1⟩ := h.freeze id _ hrow
    let E1 := E.kill id fun b => E.F b ∨ ∃ l, E.loc id = some l ∧ b = l.b
    let E2 : Env := { E1 with hp := (E.hp.map (frzHC E.hp id)).set id .dead }
    have hlen : id < E.hp.length := (List.getElem?_eq_some_iff.1 hrow).1
    have get2 : ∀ j : Nat, E2.hp[j]? = if j = id then some .dead else (E.hp[j]?).map (frzHC E.hp id) := fun j => by
      show ((E.hp.map (frzHC E.hp id)).set id .dead)[j]? = _
      rw [getElem?_set' _ _ _ _ (by simpa using hlen), List.getElem?_map]
    have back : ∀ (j : Nat) r', E2.hp[j]? = some (.live r') → j ≠ id ∧ ∃ r, E.hp[j]? = some (.live r) ∧ frzHC E.hp id (.live r) = .live r' := by
      intro j r' hx
      rw [get2] at hx
      by_cases e : j = id
      · rw [if_pos e] at hx; simp at hx
      · rw [if_neg e] at hx
        refine ⟨e, ?_⟩
        cases hc : E.hp[j]? with
        | none => rw [hc] at hx; cases hx
        | some c =>
          rw [hc] at hx
          simp only [Option.map_some, Option.some.injEq] at hx
          cases c with
          | live r => exact ⟨r, rfl, hx⟩
          | _ => simp [frzHC] at hx
    have le2 : Le E E2 := by
      refine ⟨le1.F, le1.Fw, fun j hn => ?_, fun j t xs' ver' hn hx => ?_, fun j ls' hn hx => ?_⟩
      · rw [get2] at hn
        by_cases e : j = id
        · rw [if_pos e] at hn; exact hn.elim
        · rw [if_neg e] at hn
          cases hc : E.hp[j]? with
          | none => trivial
          | some c =>
            rw [hc] at hn
            cases c with
            | live r => cases r <;> exact hn.elim
            | fresh => trivial
            | dead => exact hn.elim
      · obtain ⟨e, r, h2, h3⟩ := back j _ hx
        cases r with
        | box ls => simp [frzHC] at h3
        | row t1 xs1 ver1 =>
          simp only [frzHC, HC.live.injEq, Root.row.injEq] at h3
          obtain ⟨rfl, h3, rfl⟩ := h3
          obtain rfl := eq_of_heq h3
          exact ⟨_, _, h2, Nat.le_refl _, fun _ => ⟨Nat.le_refl _, rfl⟩⟩
      · obtain ⟨e, r, h2, h3⟩ := back j _ hx
        cases r with
        | row t1 xs1 ver1 => simp [frzHC] at h3
        | box ls =>
          simp only [frzHC, HC.live.injEq, Root.box.injEq] at h3
          subst h3
          exact ⟨ls, h2, by rw [List.map_map]; congr 1; funext a; exact (frzSV_size _ _ a).symm, rfl⟩
    have sv : ∀ a v, SVR E a v → SVR E2 (frzSV E.hp id a) v := by
      intro a v hv
      cases a with
      | ref id' ver t off len =>
        simp only [frzSV]
        split
        · rename_i e
          subst e
          split
          · rename_i xs hxs
            have := ref_frozen h hv hxs (F := E2.F) (fun b hb => .inl hb) (fun l hl => .inr ⟨l, hl, rfl⟩)
            exact ⟨[v], this, by obtain ⟨A, c, e, _⟩ := this; rfl⟩
          · exact hv.le le2
        · exact hv.le le2
      | _ => exact hv.le le2
    have svc : ∀ a cs, SVC E a cs → SVC E2 (frzSV E.hp id a) cs := by
      intro a cs hv
      cases a with
      | c t x => exact hv.le le2
      | ref id' ver t off len =>
        obtain ⟨v, e0, hv⟩ := hv
        have h9 := sv _ _ hv
        simp only [frzSV] at h9 ⊢
        split
        · rename_i e
          subst e
          split
          · rename_i xs hxs
            rw [e0]
            exact ref_frozen h hv hxs (F := E2.F) (fun b hb => .inl hb) (fun l hl => .inr ⟨l, hl, rfl⟩)
          · exact ⟨v, e0, hv.le le2⟩
        · exact ⟨v, e0, hv.le le2⟩
      | _ => exact hv.le le2
    have cv : ∀ a v, CVR E a v → CVR E2 (frzCV E.hp id a) v := by
      intro a v hv
      cases a with
      | one a => exact sv _ _ hv
      | agg l => obtain ⟨cs, hs, e⟩ := hv; exact ⟨cs, hs.map fun _ _ h' => svc _ _ h', e⟩
      | fn f caps => obtain ⟨vs, e, hs⟩ := hv; exact ⟨vs, e, hs.map fun _ _ ⟨v, e, h'⟩ => ⟨v, e, sv _ _ h'⟩⟩
    have live1 : ∀ (j : Nat) r', E2.hp[j]? = some (.live r') → ∃ r, E1.hp[j]? = some (.live r) := fun j r' hx => by
      obtain ⟨e, r, h2, h3⟩ := back j _ hx
      refine ⟨r, ?_⟩
      show (E.hp.set id .dead)[j]? = _
      rw [getElem?_set' _ _ _ _ hlen, if_neg e]
      exact h2
    refine ⟨E2, rfl, rfl, ?_, le2, ?_⟩
    · refine ⟨fun j r' hx => ?_, fun i j ri rj li lj hi hj => ?_, fun i r l hx => ?_, fun i r l hx => ?_, fun i r l hx => ?_, h1.Fin, h1.Fold, h1.old, h1.size, h1.os, h1.tape, h1.output⟩
      · obtain ⟨e, r, h2, h3⟩ := back j _ hx
        cases r with
        | box ls =>
          simp only [frzHC, HC.live.injEq] at h3
          subst h3
          obtain ⟨l, ty, cells, g1, g2, g3⟩ := h.root j _ h2
          exact ⟨l, ty, cells, g1, g2, g3.map fun _ _ h' => svc _ _ h'⟩
        | row t1 xs1 ver1 =>
          simp only [frzHC, HC.live.injEq] at h3
          subst h3
          exact RootR.le le2 rfl (fun _ _ => rfl) (h.root j _ h2)
      · obtain ⟨r1, g1⟩ := live1 i ri hi
        obtain ⟨r2, g2⟩ := live1 j rj hj
        exact h1.inj i j r1 r2 li lj g1 g2
      · obtain ⟨r1, g1⟩ := live1 i r hx
        exact h1.notF i r1 l g1
      · obtain ⟨r1, g1⟩ := live1 i r hx
        exact h1.may i r1 l g1
      · obtain ⟨r1, g1⟩ := live1 i r hx
        exact h1.inside i r1 l g1
    · intro a v hv
      cases a with
      | v a => exact cv _ _ hv
      | tup l => obtain ⟨vs, e, hs⟩ := hv; exact ⟨vs, e, hs.map fun _ _ ⟨v, e, h'⟩ => ⟨v, e, cv _ _ h'⟩⟩
  · cases hi

theorem TR.frz {E' : Env} {id : Nat} {tm : List AV} {tmps : Array Value} (h : TR E tm tmps) (h5 : ∀ a v, AVR E a v → AVR E' (frzAV E.hp id a) v) : TR E' (frzT id tm E.hp) tmps := by
  refine ⟨by simpa [frzT] using h.1, fun t => ?_⟩
  have := h5 _ _ (h.2 t)
  simp only [frzT, List.getD_eq_getElem?_getD, List.getElem?_map] at this ⊢
  cases hc : tm[t]? with
  | none => trivial
  | some a => rw [hc] at this; exact this

def SV.ids : SV → List Nat
  | .ref id _ _ _ _ => [id]
  | _ => []
def svIds : List SV → List Nat
  | [] => []
  | a :: l => a.ids ++ svIds l
def CV.ids : CV → List Nat
  | .one a => a.ids
  | .agg l => svIds l
  | .fn _ caps => svIds caps
def cvIds : List CV → List Nat
  | [] => []
  | a :: l => a.ids ++ cvIds l
end
end Go.Proofs.Ytgkjgpiggjjmpaa.Ev
