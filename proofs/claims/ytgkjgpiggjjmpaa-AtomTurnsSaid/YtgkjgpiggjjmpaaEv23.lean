/- Lemmas for the claim: What an operation looks at. (no condition.) -/
import Derived.Test.YtgkjgpiggjjmpaaEv22
import Derived.Orders
/-! What an operation looks at. -/
namespace Go.Proofs.Ytgkjgpiggjjmpaa.Ev
open Go
set_option linter.unusedVariables false

def SV.at : SV → List Nat
  | .ref id _ _ _ _ | .bp id _ | .ip id _ _ | .rp id _ _ _ _ => [id]
  | _ => []
def svsAt : List SV → List Nat
  | [] => []
  | a :: l => a.at ++ svsAt l
def CV.at : CV → List Nat
  | .one a => a.at
  | .agg l => svsAt l
  | .fn _ caps => svsAt caps
def cvsAt : List CV → List Nat
  | [] => []
  | a :: l => a.at ++ cvsAt l
def AV.at : AV → List Nat
  | .v a => a.at
  | .tup l => cvsAt l

/-- Alike at these ids. -/
def Alike (hp hp' : List HC) (l : List Nat) : Prop := ∀ id ∈ l, hp[id]? = hp'[id]?

theorem Alike.left {hp hp' : List HC} {l m : List Nat} (h : Alike hp hp' (l ++ m)) : Alike hp hp' l := fun id hi => h id (List.mem_append_left _ hi)
theorem Alike.right {hp hp' : List HC} {l m : List Nat} (h : Alike hp hp' (l ++ m)) : Alike hp hp' m := fun id hi => h id (List.mem_append_right _ hi)
theorem Alike.one {hp hp' : List HC} {id : Nat} (h : Alike hp hp' [id]) : hp[id]? = hp'[id]? := h id (.head _)

section
variable {P : Program} {X : Tbl P} {hp hp' : List HC}

theorem rowOf_loc {id ver : Nat} {t : Ty} (h : hp[id]? = hp'[id]?) : rowOf hp id ver t = rowOf hp' id ver t := by unfold rowOf; rw [h]
theorem boxOf_loc {id : Nat} (h : hp[id]? = hp'[id]?) : boxOf hp id = boxOf hp' id := by unfold boxOf; rw [h]
theorem isLive_loc {a : SV} (h : Alike hp hp' a.at) : isLive hp a = isLive hp' a := by
  cases a with
  | ref id ver t off len => simp only [isLive, rowOf_loc h.one]
  | bp id j => simp only [isLive, boxOf_loc h.one]
  | ip id j i => simp only [isLive, boxOf_loc h.one]
  | rp id ver t i p => simp only [isLive, rowOf_loc h.one]
  | _ => rfl
theorem live_loc : ∀ {l : List SV}, Alike hp hp' (svsAt l) → l.all (isLive hp) = l.all (isLive hp')
  | [], _ => rfl
  | a :: l, h => by simp only [List.all_cons, isLive_loc h.left, live_loc h.right]
theorem expl_at : ∀ (t : Ty) (x : t.D), svsAt (expl t x) = []
  | .pair a b, x => by
    have : ∀ l m : List SV, svsAt (l ++ m) = svsAt l ++ svsAt m := fun l m => by
      induction l with
      | nil => rfl
      | cons a l ih => simp only [List.cons_append, svsAt, ih, List.append_assoc]
    rw [expl, this, expl_at a, expl_at b]; rfl
  | .unit, _ => rfl
  | .int k, x => rfl
  | .bool, x => rfl
  | .str, x => rfl
  | .arr n e, x => rfl
  | .sl e, x => rfl
theorem leavesOf_at {t : Ty} {a : CV} {l : List SV} (h : leavesOf t a = some l) : svsAt l = [] ∨ svsAt l = a.at := by
  cases a with
  | agg m =>
    simp only [leavesOf] at h
    split at h
    · simp only [Option.some.injEq] at h; subst h; exact .inr rfl
    · cases h
  | fn f caps => simp [leavesOf] at h
  | one a =>
    cases a with
    | c t' x =>
      simp only [leavesOf] at h
      split at h
      · simp only [Option.some.injEq] at h; subst h; exact .inl (expl_at _ _)
      · cases h
    | _ =>
      simp only [leavesOf] at h
      split at h
      · cases h
      · simp only [Option.some.injEq] at h; subst h; exact .inr (by simp [svsAt, CV.at])
theorem leaves_loc {t : Ty} {a : CV} {l : List SV} (h : leavesOf t a = some l) (ha : Alike hp hp' a.at) : l.all (isLive hp) = l.all (isLive hp') := by
  rcases leavesOf_at h with e | e
  · exact live_loc (by rw [e]; intro _ h; cases h)
  · exact live_loc (by rw [e]; exact ha)

theorem loadF_loc {T : TypeId} {a : SV} (h : Alike hp hp' a.at) : loadF X T hp a = loadF X T hp' a := by
  cases a with
  | bp id j => simp only [loadF, boxOf_loc h.one]
  | ip id j i => simp only [loadF, boxOf_loc h.one]
  | rp id ver t i p => simp only [loadF, rowOf_loc h.one]
  | _ => rfl
theorem fieldAddrF_loc {T : TypeId} {f : Nat} {a : SV} (h : Alike hp hp' a.at) : fieldAddrF X T f hp a = fieldAddrF X T f hp' a := by
  cases a with
  | bp id j => simp only [fieldAddrF, boxOf_loc h.one]
  | rp id ver t i p => simp only [fieldAddrF, rowOf_loc h.one]
  | _ => rfl
theorem indexAddrF_loc {T : TypeId} {n : Int} {a : SV} (h : Alike hp hp' a.at) : indexAddrF X T hp n a = indexAddrF X T hp' n a := by
  cases a with
  | bp id j => simp only [indexAddrF, boxOf_loc h.one]
  | ref id ver t off len => simp only [indexAddrF, rowOf_loc h.one]
  | rp id ver t i p => simp only [indexAddrF, rowOf_loc h.one]
  | c t x => cases t <;> rfl
  | cp t x => cases t <;> rfl
  | _ => rfl
theorem rowVal_loc {t : Ty} {a : SV} (h : Alike hp hp' a.at) : rowVal hp t a = rowVal hp' t a := by
  cases a with
  | ref id ver t' off len => simp only [rowVal, rowOf_loc h.one]
  | c t x => cases t <;> rfl
  | _ => rfl
theorem convF_loc {src dst : TypeId} {a : SV} (h : Alike hp hp' a.at) : convF X src dst hp a = convF X src dst hp' a := by
  cases a with
  | c t x =>
    cases t with
    | int k => rfl
    | str => rfl
    | _ => simp only [convF, rowVal_loc h]
  | _ => simp only [convF, rowVal_loc h]
theorem sliceF_loc {T : TypeId} {lo hi mx : Option Int} {a : SV} (h : Alike hp hp' a.at) : sliceF X T hp lo hi mx a = sliceF X T hp' lo hi mx a := by
  cases a with
  | ref id ver t off len => simp only [sliceF, rowOf_loc h.one]
  | c t x => cases t <;> rfl
  | _ => rfl
theorem lenF_loc {T : TypeId} {a : SV} (h : Alike hp hp' a.at) : lenF X T hp a = lenF X T hp' a := by
  cases a with
  | ref id ver t off len => simp only [lenF, rowOf_loc h.one]
  | c t x => cases t <;> rfl
  | _ => rfl
theorem bld_loc {get : TypeId → Option TInfo} {t : Ty} {flds : List (Nat × TypeId)} : ∀ {ps : List (Nat × CV)} {ls : List SV}, Alike hp hp' (cvsAt (ps.map (·.2))) → bld get t flds hp ps ls = bld get t flds hp' ps ls
  | [], _, _ => rfl
  | (f, a) :: ps, ls, h => by
    simp only [bld]
    split
    · split
      · split
        · rename_i l' hl
          rw [leaves_loc hl h.left]
          split
          · exact bld_loc h.right
          · rfl
        · rfl
      · rfl
    · rfl

def appU : Option (Nat × HC) → List HC → List HC
  | some (i, c), hp => hp.set i c
  | none, hp => hp

/-- Where an append may write besides its own slot. -/
theorem appendF_loc {T T2 slot : Nat} {a b : SV} (ha : Alike hp hp' a.at) (hb : Alike hp hp' b.at) {p : Prop} {r : CV} {h1 : List HC} (h : appendF X T T2 slot hp a b = some (p, r, h1)) :
    ∃ u, h1 = appU u hp ∧ appendF X T T2 slot hp' a b = some (p, r, appU u hp') ∧ ∀ i c, u = some (i, c) → i = slot ∨ i ∈ a.at := by
  unfold appendF at h ⊢
  split at h
  case h_2 => cases h
  rename_i i hX
  split at h
  case h_2 => cases h
  rename_i t ht
  split at h
  case h_2 => cases h
  rename_i j i2 ys hj hX2 hys
  split at h
  case isFalse => cases h
  rename_i hc
  rw [rowVal_loc hb] at hys
  simp only [hX, ht, hj, hX2, hys, hc, and_self, if_true]
  cases a with
  | nl t' =>
    simp only [Option.some.injEq, Prod.mk.injEq] at h
    obtain ⟨rfl, rfl, rfl⟩ := h
    exact ⟨some (slot, _), rfl, rfl, fun i c e => by simp only [Option.some.injEq, Prod.mk.injEq] at e; exact .inl e.1.symm⟩
  | ref id ver t' off len =>
    simp only at h ⊢
    split at h
    · rename_i e
      rw [if_pos e]
      rw [rowOf_loc ha.one] at h
      split at h
      · rename_i xs hxs
        simp only [Option.some.injEq, Prod.mk.injEq] at h
        obtain ⟨rfl, rfl, rfl⟩ := h
        exact ⟨some (id, _), rfl, rfl, fun i c e => by simp only [Option.some.injEq, Prod.mk.injEq] at e; exact .inr (by rw [← e.1]; exact .head _)⟩
      · cases h
    · cases h
  | _ => simp at h
end
end Go.Proofs.Ytgkjgpiggjjmpaa.Ev
