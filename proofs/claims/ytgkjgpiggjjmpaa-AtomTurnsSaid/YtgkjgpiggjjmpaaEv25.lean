/- Lemmas for the claim: An operation looks at memory at the ids of its operands alone. (no condition.) -/
import Derived.Test.YtgkjgpiggjjmpaaEv24
/-! An operation looks at memory at the ids of its operands alone. -/
namespace Go.Proofs.Ytgkjgpiggjjmpaa.Ev
open Go
set_option linter.unusedVariables false

def oAt (tm : List AV) : Operand → List Nat
  | .tmp t => (tm.getD t (.v (.one .u))).at
  | _ => []
def osAt (tm : List AV) : List Operand → List Nat
  | [] => []
  | x :: l => oAt tm x ++ osAt tm l
def opAt (tm : List AV) (o : Oper) : List Nat := osAt tm o.op.operands.toList
def isStore : Op → Bool
  | .store .. => true
  | _ => false
/-- The row that an append goes on with. -/
def baseAt (tm : List AV) (o : Oper) : List Nat := match o.op with
  | .call c => match c.callee, c.args.toList with
    | .builtin .append, x :: _ => oAt tm x
    | _, _ => []
  | _ => []

theorem svs_at_cv : ∀ (a : CV), a.sv.at = [] ∨ a.sv.at = a.at
  | .one a => .inr rfl
  | .agg l => .inl rfl
  | .fn f caps => .inl rfl

section
variable {P : Program} {X : Tbl P} {hp hp' : List HC} {tm : List AV}

theorem constV_at (T : TypeId) (v : Value) : (constV X T v).at = [] := by
  unfold constV
  split
  · rfl
  · rfl
  · rfl
  · split
    · split <;> rfl
    · rfl
  · rfl

theorem av_cv_at (a : AV) : a.cv.at = [] ∨ a.cv.at = a.at := by
  cases a with
  | v a => exact .inr rfl
  | tup l => exact .inl rfl

theorem opd_at (T : TypeId) (x : Operand) : (opd X T tm x).at = oAt tm x := by
  cases x with
  | tmp t => rfl
  | const v => show (constV X T v).at = []; exact constV_at T v
  | func f => rfl
  | global g => rfl

theorem mem_osAt {x : Operand} {id : Nat} : ∀ {l : List Operand}, x ∈ l → id ∈ oAt tm x → id ∈ osAt tm l
  | y :: l, h, hi => by
    rcases List.mem_cons.1 h with rfl | h
    · exact List.mem_append_left _ hi
    · exact List.mem_append_right _ (mem_osAt h hi)

theorem alike_cv {o : Oper} (h : Alike hp hp' (opAt tm o)) {x : Operand} (hx : x ∈ o.op.operands) (T : TypeId) : Alike hp hp' (opd X T tm x).cv.at := by
  intro id hi
  refine h id (mem_osAt (Array.mem_toList_iff.2 hx) ?_)
  rcases av_cv_at (opd X T tm x) with e | e
  · rw [e] at hi; cases hi
  · rw [e, opd_at] at hi; exact hi
theorem alike_sv {o : Oper} (h : Alike hp hp' (opAt tm o)) {x : Operand} (hx : x ∈ o.op.operands) (T : TypeId) : Alike hp hp' (opd X T tm x).cv.sv.at := by
  intro id hi
  refine alike_cv (X := X) h hx T id ?_
  rcases svs_at_cv (opd X T tm x).cv with e | e
  · rw [e] at hi; cases hi
  · rw [e] at hi; exact hi

theorem alike_parts {l : List (Nat × CV)} (h : ∀ p ∈ l, Alike hp hp' p.2.at) : Alike hp hp' (cvsAt (l.map (·.2))) := by
  induction l with
  | nil => intro id hi; cases hi
  | cons p l ih =>
    intro id hi
    rcases List.mem_append.1 hi with hi | hi
    · exact h p (.head _) id hi
    · exact ih (fun q hq => h q (.tail _ hq)) id hi

theorem fOp_loc {slot : Nat} {o : Oper} (hns : isStore o.op = false) (h : Alike hp hp' (opAt tm o)) {p : Prop} {r : AV} {h1 : List HC} (hf : fOp X slot o tm hp = some (p, r, h1)) :
    ∃ u, h1 = appU u hp ∧ fOp X slot o tm hp' = some (p, r, appU u hp') ∧ ∀ i c, u = some (i, c) → isAl o.op = true ∧ (i = slot ∨ i ∈ baseAt tm o) := by
  generalize hG : fOp X slot o tm hp' = G
  have same : G = some (p, r, hp') → h1 = hp → ∃ u, h1 = appU u hp ∧ G = some (p, r, appU u hp') ∧ ∀ i c, u = some (i, c) → isAl o.op = true ∧ (i = slot ∨ i ∈ baseAt tm o) :=
    fun a b => ⟨none, b, a, fun _ _ e => by cases e⟩
  have new : ∀ c, isAl o.op = true → G = some (p, r, hp'.set slot c) → h1 = hp.set slot c → ∃ u, h1 = appU u hp ∧ G = some (p, r, appU u hp') ∧ ∀ i c, u = some (i, c) → isAl o.op = true ∧ (i = slot ∨ i ∈ baseAt tm o) :=
    fun c hal a b => ⟨some (slot, c), b, a, fun i c e => by simp only [Option.some.injEq, Prod.mk.injEq] at e; exact ⟨hal, .inl e.1.symm⟩⟩
  rcases o with ⟨dst, op, type, pos, after, guard⟩
  have hop : ∀ {x : Operand}, x ∈ op.operands → ∀ T, Alike hp hp' (opd X T tm x).cv.at := fun hx T => alike_cv (o := ⟨dst, op, type, pos, after, guard⟩) h hx T
  have hos : ∀ {x : Operand}, x ∈ op.operands → ∀ T, Alike hp hp' (opd X T tm x).cv.sv.at := fun hx T => alike_sv (o := ⟨dst, op, type, pos, after, guard⟩) h hx T
  cases op with
  | move x => simp only [fOp] at hf hG; simp only [Option.some.injEq, Prod.mk.injEq] at hf; obtain ⟨rfl, rfl, rfl⟩ := hf; exact same hG.symm rfl
  | assign x => simp only [fOp] at hf hG; simp only [Option.some.injEq, Prod.mk.injEq] at hf; obtain ⟨rfl, rfl, rfl⟩ := hf; exact same hG.symm rfl
  | pick c a b =>
    simp only [fOp] at hf hG
    split at hf
    · rename_i x hx
      rw [hx] at hG
      simp only [Option.some.injEq, Prod.mk.injEq] at hf
      obtain ⟨rfl, rfl, rfl⟩ := hf
      exact same hG.symm rfl
    · cases hf
  | alloc T =>
    simp only [fOp] at hf hG
    split at hf
    · rename_i i hi
      rw [hi] at hG
      simp only [Option.some.injEq, Prod.mk.injEq] at hf
      obtain ⟨rfl, rfl, rfl⟩ := hf
      exact new _ rfl hG.symm rfl
    · cases hf
  | box T x =>
    simp only [fOp] at hf hG
    split at hf
    · rename_i i hi
      rw [hi] at hG
      simp only at hf hG
      split at hf
      · rename_i l hl
        rw [hl] at hG
        simp only at hf hG
        rw [← leaves_loc hl (hop (by simp [Op.operands]) T)] at hG
        split at hf
        · rename_i hc
          rw [if_pos hc] at hG
          simp only [Option.some.injEq, Prod.mk.injEq] at hf
          obtain ⟨rfl, rfl, rfl⟩ := hf
          exact new _ rfl hG.symm rfl
        · cases hf
      · cases hf
    · cases hf
  | build T ps =>
    have hp1 : ∀ f : Nat → TypeId, Alike hp hp' (cvsAt ((ps.toList.map fun p => (p.1, (opd X (f p.1) tm p.2).cv)).map (·.2))) := fun f => alike_parts fun q hq => by
      obtain ⟨p, hp, rfl⟩ := List.mem_map.1 hq
      exact hop (by simp only [Op.operands, List.mem_toArray, List.mem_map]; exact ⟨p, hp, rfl⟩) _
    simp only [fOp] at hf hG
    split at hf
    · rename_i i hi
      rw [hi] at hG
      simp only at hf hG
      split at hf
      · rename_i a b ht
        rw [ht] at hG
        simp only at hf hG
        split at hf
        · rename_i hall
          rw [if_pos hall] at hG
          rw [← bld_loc (hp := hp) (hp' := hp') (hp1 fun k => (i.flds.getD k (0, 0)).2)] at hG
          split at hf
          · rename_i ls hls
            rw [hls] at hG
            simp only [Option.some.injEq, Prod.mk.injEq] at hf
            obtain ⟨rfl, rfl, rfl⟩ := hf
            exact same hG.symm rfl
          · cases hf
        · cases hf
      · rename_i n e ht
        rw [ht] at hG
        simp only at hf hG
        split at hf
        · rename_i hn
          rw [if_pos hn] at hG
          split at hf
          · rename_i xs hxs
            rw [hxs] at hG
            simp only [Option.some.injEq, Prod.mk.injEq] at hf
            obtain ⟨rfl, rfl, rfl⟩ := hf
            exact same hG.symm rfl
          · cases hf
        · cases hf
      · cases hf
    · cases hf
  | buildSlice T n ps =>
    simp only [fOp] at hf hG
    split at hf
    · rename_i i hi
      rw [hi] at hG
      simp only at hf hG
      split at hf
      · rename_i t ht
        rw [ht] at hG
        simp only at hf hG
        split at hf
        · rename_i j hj
          rw [hj] at hG
          simp only at hf hG
          split at hf
          · rename_i hc
            rw [if_pos hc] at hG
            split at hf
            · rename_i xs hxs
              rw [hxs] at hG
              simp only [Option.some.injEq, Prod.mk.injEq] at hf
              obtain ⟨rfl, rfl, rfl⟩ := hf
              exact new _ rfl hG.symm rfl
            · cases hf
          · cases hf
        · cases hf
      · cases hf
    · cases hf
  | load T x =>
    simp only [fOp, loadF_loc (hp := hp) (hp' := hp') (hos (x := x) (by simp [Op.operands]) 0)] at hf hG
    split at hf
    · rename_i a ha
      rw [ha] at hG
      simp only [Option.some.injEq, Prod.mk.injEq] at hf
      obtain ⟨rfl, rfl, rfl⟩ := hf
      exact same hG.symm rfl
    · cases hf
  | store T x y => cases hns
  | nilCheck x =>
    have hx := hos (x := x) (by simp [Op.operands]) 0
    simp only [fOp] at hf hG
    split at hf
    · rename_i id j e
      rw [e] at hG hx
      simp only [boxOf_loc hx.one] at hf hG
      split at hf
      · rename_i hc
        simp only [if_pos hc] at hG
        simp only [Option.some.injEq, Prod.mk.injEq] at hf
        obtain ⟨rfl, rfl, rfl⟩ := hf
        exact same hG.symm rfl
      · cases hf
    · rename_i id ver t k q e
      rw [e] at hG hx
      simp only [rowOf_loc hx.one] at hf hG
      split at hf
      · rename_i hc
        simp only [if_pos hc] at hG
        simp only [Option.some.injEq, Prod.mk.injEq] at hf
        obtain ⟨rfl, rfl, rfl⟩ := hf
        exact same hG.symm rfl
      · cases hf
    · rename_i t y e
      rw [e] at hG
      simp only [Option.some.injEq, Prod.mk.injEq] at hf
      obtain ⟨rfl, rfl, rfl⟩ := hf
      exact same hG.symm rfl
    · cases hf
  | binOp op T x y yT =>
    simp only [fOp] at hf hG
    split at hf
    · rename_i p' r' e
      rw [e] at hG
      simp only [Option.some.injEq, Prod.mk.injEq] at hf
      obtain ⟨rfl, rfl, rfl⟩ := hf
      exact same hG.symm rfl
    · cases hf
  | unOp op T x =>
    simp only [fOp] at hf hG
    split at hf
    · rename_i r' e
      rw [e] at hG
      simp only [Option.some.injEq, Prod.mk.injEq] at hf
      obtain ⟨rfl, rfl, rfl⟩ := hf
      exact same hG.symm rfl
    · cases hf
  | convert s d x =>
    simp only [fOp, convF_loc (hp := hp) (hp' := hp') (hos (x := x) (by simp [Op.operands]) s)] at hf hG
    split at hf
    · rename_i r' e
      rw [e] at hG
      simp only at hf hG
      split at hf
      · rename_i hc
        rw [if_pos hc] at hG
        simp only [Option.some.injEq, Prod.mk.injEq] at hf
        obtain ⟨rfl, rfl, rfl⟩ := hf
        exact same hG.symm rfl
      · cases hf
    · cases hf
  | makeSlice T x y =>
    simp only [fOp] at hf hG
    split at hf
    · rename_i i n m hi hn hm
      rw [hi, hn, hm] at hG
      simp only at hf hG
      split at hf
      · rename_i t ht
        rw [ht] at hG
        simp only at hf hG
        split at hf
        · rename_i j hj
          rw [hj] at hG
          simp only at hf hG
          split at hf
          · rename_i hc
            rw [if_pos hc] at hG
            simp only [Option.some.injEq, Prod.mk.injEq] at hf
            obtain ⟨rfl, rfl, rfl⟩ := hf
            exact new _ rfl hG.symm rfl
          · cases hf
        · cases hf
      · cases hf
    · cases hf
  | slice T x lo hi mx =>
    simp only [fOp] at hf hG
    split at hf
    · rename_i l g m hl hg hm
      rw [hl, hg, hm] at hG
      have hx : sliceF X T hp l g m (opd X T tm x).cv.sv = sliceF X T hp' l g m (opd X T tm x).cv.sv := sliceF_loc (hos (x := x) (by simp [Op.operands]) T)
      simp only [hx] at hf hG
      split at hf
      · rename_i p' r' e
        rw [e] at hG
        simp only [Option.some.injEq, Prod.mk.injEq] at hf
        obtain ⟨rfl, rfl, rfl⟩ := hf
        exact same hG.symm rfl
      · cases hf
    · cases hf
  | fieldAddr T x f =>
    simp only [fOp, fieldAddrF_loc (hp := hp) (hp' := hp') (hos (x := x) (by simp [Op.operands]) 0)] at hf hG
    split at hf
    · rename_i r' e
      rw [e] at hG
      simp only [Option.some.injEq, Prod.mk.injEq] at hf
      obtain ⟨rfl, rfl, rfl⟩ := hf
      exact same hG.symm rfl
    · cases hf
  | field T x f =>
    simp only [fOp] at hf hG
    split at hf
    · rename_i r' e
      rw [e] at hG
      simp only [Option.some.injEq, Prod.mk.injEq] at hf
      obtain ⟨rfl, rfl, rfl⟩ := hf
      exact same hG.symm rfl
    · cases hf
  | indexAddr T x y =>
    simp only [fOp] at hf hG
    split at hf
    · rename_i n hn
      rw [hn] at hG
      have hx : indexAddrF X T hp n (opd X T tm x).cv.sv = indexAddrF X T hp' n (opd X T tm x).cv.sv := indexAddrF_loc (hos (x := x) (by simp [Op.operands]) T)
      simp only [hx] at hf hG
      split at hf
      · rename_i p' r' e
        rw [e] at hG
        simp only [Option.some.injEq, Prod.mk.injEq] at hf
        obtain ⟨rfl, rfl, rfl⟩ := hf
        exact same hG.symm rfl
      · cases hf
    · cases hf
  | index T x y =>
    simp only [fOp] at hf hG
    split at hf
    · rename_i n hn
      rw [hn] at hG
      simp only at hf hG
      split at hf
      · rename_i p' r' e
        rw [e] at hG
        simp only [Option.some.injEq, Prod.mk.injEq] at hf
        obtain ⟨rfl, rfl, rfl⟩ := hf
        exact same hG.symm rfl
      · cases hf
    · cases hf
  | extract x k =>
    simp only [fOp] at hf hG
    split at hf
    · rename_i l hl
      rw [hl] at hG
      simp only at hf hG
      split at hf
      · rename_i a ha
        rw [ha] at hG
        simp only [Option.some.injEq, Prod.mk.injEq] at hf
        obtain ⟨rfl, rfl, rfl⟩ := hf
        exact same hG.symm rfl
      · cases hf
    · cases hf
  | makeFunc fn first caps =>
    simp only [fOp] at hf hG
    split at hf
    · rename_i f cs h2 h3
      rw [h2, h3] at hG
      simp only [Option.some.injEq, Prod.mk.injEq] at hf
      obtain ⟨rfl, rfl, rfl⟩ := hf
      exact same hG.symm rfl
    · cases hf
  | call c =>
    have hc : ∀ x ∈ c.args.toList, x ∈ (Op.call c).operands := fun x hx => by
      simp only [Op.operands, Call.operands]
      simp
      exact .inr (Array.mem_toList_iff.1 hx)
    simp only [fOp] at hf
    split at hf
    · rename_i x T g1 g2 g3
      simp only [fOp, g1, g2, g3] at hG
      have hx : lenF X T hp (opd X T tm x).cv.sv = lenF X T hp' (opd X T tm x).cv.sv := lenF_loc (hos (hc x (by rw [g2]; exact .head _)) T)
      rw [hx] at hf
      split at hf
      · rename_i n hn
        rw [hn] at hG
        simp only [Option.some.injEq, Prod.mk.injEq] at hf
        obtain ⟨rfl, rfl, rfl⟩ := hf
        exact same hG.symm rfl
      · cases hf
    · rename_i x y T T2 g1 g2 g3
      split at hf
      · rename_i p' r' h' e
        obtain ⟨u, k1, k2, k3⟩ := appendF_loc (hp' := hp') (hos (hc x (by rw [g2]; exact .head _)) T) (hos (hc y (by rw [g2]; exact .tail _ (.head _))) T2) e
        simp only [Option.some.injEq, Prod.mk.injEq] at hf
        obtain ⟨rfl, rfl, rfl⟩ := hf
        refine ⟨u, k1, ?_, fun i c' e => ?_⟩
        · rw [← hG]; simp only [fOp, g1, g2, g3, k2]
        · refine ⟨by simp only [isAl, g1], ?_⟩
          rcases k3 i c' e with h5 | h5
          · exact .inl h5
          · right
            simp only [baseAt, g1, g2]
            rw [← opd_at (X := X) T x]
            rcases svs_at_cv (opd X T tm x).cv with h6 | h6
            · rw [h6] at h5; cases h5
            · rw [h6] at h5
              rcases av_cv_at (opd X T tm x) with h7 | h7
              · rw [h7] at h5; cases h5
              · rw [h7] at h5; exact h5
      · cases hf
    · cases hf
  | _ => simp [fOp] at hf
end
end Go.Proofs.Ytgkjgpiggjjmpaa.Ev
