/- Lemmas for the claim: An operation looks at its operands alone. (no condition.) -/
import Derived.Test.YtgkjgpiggjjmpaaEv23
/-! An operation looks at its operands alone. -/
namespace Go.Proofs.Ytgkjgpiggjjmpaa.Ev
open Go
set_option linter.unusedVariables false

section
variable {P : Program} {X : Tbl P} {hp hp' : List HC} {tm tm' : List AV}

theorem oint_tm {x : Option Operand} (h : ∀ y ∈ x.toArray, ∀ T, opd X T tm y = opd X T tm' y) : oint X tm x = oint X tm' x := by
  cases x with
  | none => rfl
  | some y => simp only [oint, h y (by simp)]

theorem fOp_tm {slot : Nat} {o : Oper} (h : ∀ x ∈ o.op.operands, ∀ T, opd X T tm x = opd X T tm' x) : fOp X slot o tm hp = fOp X slot o tm' hp := by
  rcases o with ⟨dst, op, type, pos, after, guard⟩
  simp only at h
  have hl : ∀ (ps : Array (Nat × Operand)) (f : Nat → TypeId), (∀ p ∈ ps.toList, ∀ T, opd X T tm p.2 = opd X T tm' p.2) →
      (ps.toList.map fun p => (p.1, (opd X (f p.1) tm p.2).cv)) = (ps.toList.map fun p => (p.1, (opd X (f p.1) tm' p.2).cv)) := fun ps f hh => List.map_congr_left fun p hp => by rw [hh p hp]
  cases op with
  | move x => simp only [fOp, h x (by simp [Op.operands])]
  | assign x => simp only [fOp, h x (by simp [Op.operands])]
  | pick c a b => simp only [fOp, h c (by simp [Op.operands]), h a (by simp [Op.operands]), h b (by simp [Op.operands])]
  | alloc T => rfl
  | box T x => simp only [fOp, h x (by simp [Op.operands])]
  | build T ps =>
    have hh : ∀ p ∈ ps.toList, ∀ T, opd X T tm p.2 = opd X T tm' p.2 := fun p hp T => h p.2 (by simp only [Op.operands, List.mem_toArray, List.mem_map]; exact ⟨p, hp, rfl⟩) T
    simp only [fOp]
    have e1 : ∀ i : TInfo, (ps.toList.map fun p => (p.1, (opd X ((i.flds.getD p.1 (0, 0)).2) tm p.2).cv)) = (ps.toList.map fun p => (p.1, (opd X ((i.flds.getD p.1 (0, 0)).2) tm' p.2).cv)) := fun i => hl ps (fun k => (i.flds.getD k (0, 0)).2) hh
    have e2 : ∀ i : TInfo, (ps.toList.map fun p => (p.1, (opd X i.elem tm p.2).cv)) = (ps.toList.map fun p => (p.1, (opd X i.elem tm' p.2).cv)) := fun i => hl ps (fun _ => i.elem) hh
    simp only [e1, e2]
  | buildSlice T n ps =>
    have hh : ∀ p ∈ ps.toList, ∀ T, opd X T tm p.2 = opd X T tm' p.2 := fun p hp T => h p.2 (by simp only [Op.operands, List.mem_toArray, List.mem_map]; exact ⟨p, hp, rfl⟩) T
    simp only [fOp]
    have e2 : ∀ i : TInfo, (ps.toList.map fun p => (p.1, (opd X i.elem tm p.2).cv)) = (ps.toList.map fun p => (p.1, (opd X i.elem tm' p.2).cv)) := fun i => hl ps (fun _ => i.elem) hh
    simp only [e2]
  | load T x => simp only [fOp, h x (by simp [Op.operands])]
  | store T x y => simp only [fOp, h x (by simp [Op.operands]), h y (by simp [Op.operands])]
  | nilCheck x => simp only [fOp, h x (by simp [Op.operands])]
  | binOp op T x y yT => simp only [fOp, h x (by simp [Op.operands]), h y (by simp [Op.operands])]
  | unOp op T x => simp only [fOp, h x (by simp [Op.operands])]
  | convert s d x => simp only [fOp, h x (by simp [Op.operands])]
  | makeSlice T x y => simp only [fOp, h x (by simp [Op.operands]), h y (by simp [Op.operands])]
  | slice T x lo hi mx =>
    have e1 : oint X tm lo = oint X tm' lo := oint_tm fun y hy T => h y (by simp only [Op.operands, Array.mem_append]; exact .inl (.inl (.inr hy))) T
    have e2 : oint X tm hi = oint X tm' hi := oint_tm fun y hy T => h y (by simp only [Op.operands, Array.mem_append]; exact .inl (.inr hy)) T
    have e3 : oint X tm mx = oint X tm' mx := oint_tm fun y hy T => h y (by simp only [Op.operands, Array.mem_append]; exact .inr hy) T
    simp only [fOp, h x (by simp [Op.operands]), e1, e2, e3]
  | fieldAddr T x f => simp only [fOp, h x (by simp [Op.operands])]
  | field T x f => simp only [fOp, h x (by simp [Op.operands])]
  | indexAddr T x y => simp only [fOp, h x (by simp [Op.operands]), h y (by simp [Op.operands])]
  | index T x y => simp only [fOp, h x (by simp [Op.operands]), h y (by simp [Op.operands])]
  | extract x k => simp only [fOp, h x (by simp [Op.operands])]
  | makeFunc fn first caps =>
    simp only [fOp]
    have e : (caps.toList.map fun x => (opd X 0 tm x).cv) = (caps.toList.map fun x => (opd X 0 tm' x).cv) := List.map_congr_left fun x hx => by
      rw [h x (by simp only [Op.operands, Array.mem_append]; exact .inr (Array.mem_toList_iff.1 hx))]
    rw [e]
  | call c =>
    simp only [fOp]
    have hc : ∀ x ∈ c.args.toList, ∀ T, opd X T tm x = opd X T tm' x := fun x hx T => h x (by
      simp only [Op.operands, Call.operands]
      simp
      exact .inr (Array.mem_toList_iff.1 hx)) T
    split
    · rename_i x T h1 h2 h3
      rw [hc x (by rw [h2]; exact .head _)]
    · rename_i x y T T2 h1 h2 h3
      rw [hc x (by rw [h2]; exact .head _), hc y (by rw [h2]; exact .tail _ (.head _))]
    · rfl
  | _ => rfl
end
end Go.Proofs.Ytgkjgpiggjjmpaa.Ev
