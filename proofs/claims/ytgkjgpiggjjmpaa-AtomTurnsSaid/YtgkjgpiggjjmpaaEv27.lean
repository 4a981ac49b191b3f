/- Lemmas for the claim: Any order will do: the steps. (no condition.) -/
import Derived.Test.YtgkjgpiggjjmpaaEv26
/-! Any order will do: the steps. -/
namespace Go.Proofs.Ytgkjgpiggjjmpaa.Ev
open Go
set_option linter.unusedVariables false

section
variable {P : Program} {X : Tbl P} {W : List (Nat × List Nat)} {ids : List Nat} {ops : List Oper} {anc : List Nat} {base : Nat} {w0 : World} {S : Who} {E0 : Env} {n : Nat}

def ofU : Option (Nat × HC) → List Nat × List HC
  | none => ([], [])
  | some (j, c) => ([j], [c])
theorem setAll_ofU (u : Option (Nat × HC)) (hp : List HC) : setAll (ofU u).1 (ofU u).2 hp = appU u hp := by
  cases u with
  | none => rfl
  | some q => rfl
def St.app (st : St) (o : Oper) (r : AV) (U : List Nat × List HC) : St := ⟨putA st.tm o.dst r, setAll U.1 U.2 st.hp⟩

/-- What an operation that is no call comes to. -/
def Val (X : Tbl P) (ops : List Oper) (slot : Nat) (o : Oper) (st : St) (r : AV) (u : Option (Nat × HC)) : Prop :=
  (∀ j c, u = some (j, c) → isAl o.op = true ∧ (j = slot ∨ j ∈ baseAt st.tm o)) ∧
  ((wantD ops o st.tm = some false ∧ r = .tup [] ∧ u = none) ∨
   (wantD ops o st.tm = some true ∧ ∃ p : Prop, fOp X slot o st.tm st.hp = some (p, r, appU u st.hp) ∧ p ∧ (isAl o.op = true → st.hp[slot]? = some .fresh)))

theorem fOp_callV {slot : Nat} {o : Oper} {tm : List AV} {hp : List HC} (h : isCallV o.op = true) : fOp X slot o tm hp = none := by
  unfold isCallV at h
  split at h
  · rename_i c ho
    split at h
    · rename_i f hc
      simp only [fOp, ho, hc]
    · cases h
  · cases h

theorem val_of {slot : Nat} {o : Oper} {st : St} {K : St → Prop} (hs : isStore o.op = false) (hc : isCallV o.op = false) (h : evI X ids ops slot o st K) : ∃ r u, Val X ops slot o st r u ∧ K (st.app o r (ofU u)) := by
  unfold evI at h
  split at h
  · rename_i b hb
    cases b with
    | true =>
      simp only at h
      unfold evA at h
      split at h
      · rename_i p r hp' hf
        obtain ⟨u, h1, h2, h3⟩ := fOp_loc (hp' := st.hp) hs (fun _ _ => rfl) hf
        subst h1
        exact ⟨r, u, ⟨h3, .inr ⟨hb, p, hf, h.1, h.2.1⟩⟩, by unfold St.app; rw [setAll_ofU]; exact h.2.2⟩
      · split at h
        · rename_i c ho
          split at h
          · rename_i f hf
            simp [isCallV, ho, hf] at hc
          · exact h.elim
        · exact h.elim
    | false => exact ⟨.tup [], none, ⟨fun _ _ e => by (cases e), .inl ⟨hb, rfl, rfl⟩⟩, h⟩
  · exact h.elim

theorem of_val {slot : Nat} {o : Oper} {st : St} {K : St → Prop} {r : AV} {u : Option (Nat × HC)} (h : Val X ops slot o st r u) (hk : K (st.app o r (ofU u))) : evI X ids ops slot o st K := by
  unfold St.app at hk
  rw [setAll_ofU] at hk
  obtain ⟨_, ⟨h1, rfl, rfl⟩ | ⟨h1, p, h2, h3, h4⟩⟩ := h
  · simp only [evI, h1]; exact hk
  · simp only [evI, h1, evA, h2]; exact ⟨h3, h4, hk⟩

/-- Two states alike in all that an operation looks at. -/
structure Agree (ids : List Nat) (ops : List Oper) (slot : Nat) (o : Oper) (st st' : St) : Prop where
  tm : ∀ t ∈ Oper.looksAt ops.toArray o, st.tm[t]? = st'.tm[t]?
  hp : Alike st.hp st'.hp (opAt st.tm o)
  hi : Alike st.hp st'.hp ids
  len : st.hp.length = st'.hp.length
  slot : isAl o.op = true → st.hp[slot]? = st'.hp[slot]?

theorem looks_op {o : Oper} {t : Nat} (h : Operand.tmp t ∈ o.op.operands) : t ∈ Oper.looksAt ops.toArray o := by
  unfold Oper.looksAt
  exact List.mem_append_left _ (List.mem_filterMap.2 ⟨.tmp t, Array.mem_toList_iff.2 h, rfl⟩)

theorem Agree.oAt {slot : Nat} {o : Oper} {st st' : St} (h : ∀ t ∈ Oper.looksAt ops.toArray o, st.tm[t]? = st'.tm[t]?) {x : Operand} (hx : x ∈ o.op.operands) : Ev.oAt st.tm x = Ev.oAt st'.tm x := by
  cases x with
  | tmp t => simp only [Ev.oAt, List.getD_eq_getElem?_getD, h t (looks_op hx)]
  | _ => rfl
theorem Agree.osAt {st st' : St} : ∀ {l : List Operand}, (∀ x ∈ l, Ev.oAt st.tm x = Ev.oAt st'.tm x) → Ev.osAt st.tm l = Ev.osAt st'.tm l
  | [], _ => rfl
  | x :: l, h => by simp only [Ev.osAt, h x (.head _), Agree.osAt fun y hy => h y (.tail _ hy)]
theorem Agree.opAt {slot : Nat} {o : Oper} {st st' : St} (h : ∀ t ∈ Oper.looksAt ops.toArray o, st.tm[t]? = st'.tm[t]?) : Ev.opAt st.tm o = Ev.opAt st'.tm o :=
  Agree.osAt fun x hx => Agree.oAt (slot := slot) h (Array.mem_toList_iff.1 hx)
theorem Agree.baseAt {slot : Nat} {o : Oper} {st st' : St} (h : ∀ t ∈ Oper.looksAt ops.toArray o, st.tm[t]? = st'.tm[t]?) : Ev.baseAt st.tm o = Ev.baseAt st'.tm o := by
  unfold Ev.baseAt
  split
  · rename_i c ho
    split
    · rename_i x l h1 h2
      refine Agree.oAt (slot := slot) h ?_
      rw [ho]
      simp only [Op.operands, Call.operands]
      simp
      exact .inr (Array.mem_toList_iff.1 (by rw [h2]; exact .head _))
    · rfl
  · rfl
theorem Agree.want {slot : Nat} {o : Oper} {st st' : St} (h : ∀ t ∈ Oper.looksAt ops.toArray o, st.tm[t]? = st'.tm[t]?) : wantD ops o st.tm = wantD ops o st'.tm := by
  unfold wantD
  split
  · rfl
  · rename_i j want hg
    split
    · rfl
    · rename_i d hd
      have : d ∈ Oper.looksAt ops.toArray o := by
        unfold Oper.looksAt
        refine List.mem_append_right _ ?_
        rw [hg]
        simp only [List.getElem?_toArray, hd, Option.toList_some, List.mem_singleton]
      rw [h d this]
theorem Agree.chk {i slot : Nat} {o : Oper} {st st' : St} (h : ∀ t ∈ Oper.looksAt ops.toArray o, st.tm[t]? = st'.tm[t]?) : chkI W ops anc base i o st.tm = chkI W ops anc base i o st'.tm := by
  simp only [chkI, Agree.opAt (slot := slot) h, Agree.baseAt (slot := slot) h]
theorem Agree.opd {slot : Nat} {o : Oper} {st st' : St} (h : ∀ t ∈ Oper.looksAt ops.toArray o, st.tm[t]? = st'.tm[t]?) {x : Operand} (hx : x ∈ o.op.operands) (T : TypeId) : Ev.opd X T st.tm x = Ev.opd X T st'.tm x := by
  cases x with
  | tmp t => simp only [Ev.opd, List.getD_eq_getElem?_getD, h t (looks_op hx)]
  | _ => rfl

theorem Agree.symm {slot : Nat} {o : Oper} {st st' : St} (h : Agree ids ops slot o st st') : Agree ids ops slot o st' st :=
  ⟨fun t ht => (h.tm t ht).symm, by rw [← Agree.opAt (slot := slot) h.tm]; exact fun id hi => (h.hp id hi).symm, fun id hi => (h.hi id hi).symm, h.len.symm, fun hal => (h.slot hal).symm⟩

theorem appU_get {u : Option (Nat × HC)} {l l' : List HC} {k : Nat} (h : l[k]? = l'[k]?) : (appU u l)[k]? = (appU u l')[k]? := by
  cases u with
  | none => exact h
  | some q =>
    obtain ⟨j, c⟩ := q
    simp only [appU, List.getElem?_set]
    by_cases e : j = k
    · subst e
      have : (j < l.length) ↔ (j < l'.length) := by
        constructor
        · intro h1
          rcases Nat.lt_or_ge j l'.length with h2 | h2
          · exact h2
          · rw [List.getElem?_eq_none h2] at h; have := List.getElem?_eq_none_iff.1 h; omega
        · intro h1
          rcases Nat.lt_or_ge j l.length with h2 | h2
          · exact h2
          · rw [List.getElem?_eq_none h2] at h; have := List.getElem?_eq_none_iff.1 h.symm; omega
      by_cases h1 : j < l.length
      · simp [h1, this.1 h1]
      · have h2 : ¬ j < l'.length := fun h2 => h1 (this.2 h2)
        rw [if_pos rfl, if_pos rfl, if_neg h1, if_neg h2]
    · simp [e, h]
theorem appU_out {u : Option (Nat × HC)} {l : List HC} {k : Nat} (h : ∀ j c, u = some (j, c) → j ≠ k) : (appU u l)[k]? = l[k]? := by
  cases u with
  | none => rfl
  | some q =>
    obtain ⟨j, c⟩ := q
    exact List.getElem?_set_ne (h j c rfl)
theorem appU_same {u u' : Option (Nat × HC)} {l l' : List HC} (e : appU u l = appU u' l) (h : ∀ j c, u = some (j, c) → l[j]? = l'[j]?) (h' : ∀ j c, u' = some (j, c) → l[j]? = l'[j]?) : appU u l' = appU u' l' := by
  apply List.ext_getElem?
  intro k
  by_cases hk : l[k]? = l'[k]?
  · rw [← appU_get hk, e, appU_get hk]
  · rw [appU_out (fun j c e' ek => hk (by rw [← ek]; exact h j c e')), appU_out (fun j c e' ek => hk (by rw [← ek]; exact h' j c e'))]

theorem base_op {tm : List AV} {o : Oper} {j : Nat} (hj : j ∈ Ev.baseAt tm o) : j ∈ Ev.opAt tm o := by
  unfold Ev.baseAt at hj
  split at hj
  · rename_i c' ho
    split at hj
    · rename_i x l g1 g2
      refine mem_osAt (Array.mem_toList_iff.2 ?_) hj
      rw [ho]
      simp only [Op.operands, Call.operands]
      simp
      exact .inr (Array.mem_toList_iff.1 (by rw [g2]; exact .head _))
    · cases hj
  · cases hj

theorem Val.loc {slot : Nat} {o : Oper} {st st' : St} {r : AV} {u : Option (Nat × HC)} (hs : isStore o.op = false) (ha : Agree ids ops slot o st st') (h : Val X ops slot o st r u) : Val X ops slot o st' r u := by
  obtain ⟨h0, h⟩ := h
  refine ⟨by rw [← Agree.baseAt (slot := slot) ha.tm]; exact h0, ?_⟩
  rw [← Agree.want (slot := slot) ha.tm]
  rcases h with ⟨h1, rfl, rfl⟩ | ⟨h1, p, h2, h3, h4⟩
  · exact .inl ⟨h1, rfl, rfl⟩
  · refine .inr ⟨h1, p, ?_, h3, fun hal => by rw [← ha.slot hal]; exact h4 hal⟩
    obtain ⟨u', e1, e2, e3⟩ := fOp_loc (hp' := st'.hp) hs ha.hp h2
    rw [← fOp_tm (tm := st.tm) (fun x hx T => Agree.opd (slot := slot) ha.tm hx T)]
    rw [e2]
    have hb : ∀ j, isAl o.op = true ∧ (j = slot ∨ j ∈ Ev.baseAt st.tm o) → st.hp[j]? = st'.hp[j]? := fun j ⟨hal, hj⟩ => by
      rcases hj with rfl | hj
      · exact ha.slot hal
      · exact ha.hp j (base_op hj)
    rw [appU_same e1.symm (fun j c e => hb j (e3 j c e)) (fun j c e => hb j (h0 j c e))]
end
end Go.Proofs.Ytgkjgpiggjjmpaa.Ev
