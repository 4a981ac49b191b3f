/- Lemmas for the claim: Any order will do: what changes places. (no condition.) -/
import Derived.Test.YtgkjgpiggjjmpaaEv27
/-! Any order will do: what changes places. -/
namespace Go.Proofs.Ytgkjgpiggjjmpaa.Ev
open Go
set_option linter.unusedVariables false

section
variable {P : Program} {X : Tbl P} {W : List (Nat × List Nat)} {ids : List Nat} {ops : List Oper} {anc : List Nat} {base : Nat} {w0 : World} {S : Who} {E0 : Env} {n : Nat}

theorem countAl_append : ∀ (l m : List Oper), countAl (l ++ m) = countAl l + countAl m
  | [], m => by simp [countAl]
  | a :: l, m => by simp only [List.cons_append, countAl, countAl_append l m]; omega

theorem offD_lt {b b' : Nat} (h : b < b') (ha : isAlAt ops b = true) : offD ops b < offD ops b' := by
  unfold isAlAt at ha
  split at ha
  · rename_i o ho
    have hl : b < ops.length := (List.getElem?_eq_some_iff.1 ho).1
    have h1 : ops.take (b + 1) = ops.take b ++ [o] := by
      rw [List.take_add_one, ho]; rfl
    have h2 : ops.take b' = ops.take (b + 1) ++ (ops.take b').drop (b + 1) := by
      have := List.take_append_drop (b + 1) (ops.take b')
      rw [List.take_take, Nat.min_eq_left (by omega)] at this
      exact this.symm
    unfold offD
    rw [h2, countAl_append, h1, countAl_append]
    simp only [countAl, ha, if_true]
    omega
  · cases ha
theorem offD_inj {b b' : Nat} (ha : isAlAt ops b = true) (ha' : isAlAt ops b' = true) (h : offD ops b = offD ops b') : b = b' := by
  rcases Nat.lt_trichotomy b b' with h1 | h1 | h1
  · have := offD_lt h1 ha; omega
  · exact h1
  · have := offD_lt h1 ha'; omega

theorem offD_all {b : Nat} (ha : isAlAt ops b = true) : offD ops b < countAl ops := by
  have hl : b < ops.length := by
    unfold isAlAt at ha
    split at ha
    · rename_i o ho; exact (List.getElem?_eq_some_iff.1 ho).1
    · cases ha
  have := offD_lt (b' := ops.length) hl ha
  simpa [offD] using this

theorem unord_symm {i j : Nat} (hne : i ≠ j) (h : unord anc i j = true) : unord anc j i = true := by
  unfold unord at h ⊢
  by_cases h1 : j < i
  · rw [if_pos h1] at h
    rw [if_neg (by omega)]
    exact h
  · rw [if_neg h1] at h
    rw [if_pos (by omega)]
    exact h

structure Stat (ops : List Oper) (anc : List Nat) : Prop where
  on : ∀ i o, ops[i]? = some o → ∀ e ∈ o.after.toList, Region.binds .any e = true → e.on < i
  lt : ∀ b i, b < ops.length → i < ops.length → isAnc anc b i = true → b < i
  up : ∀ b i o, b < ops.length → ops[i]? = some o → isAnc anc b i = true → ∃ e ∈ o.after.toList, Region.binds .any e = true ∧ (e.on = b ∨ isAnc anc b e.on = true)
  okp : ∀ x i ox o, x < i → ops[x]? = some ox → ops[i]? = some o → isAnc anc x i = false → okp ops ox o = true

theorem stat_of (h : chkS ops anc = true) : Stat ops anc := by
  have h := List.all_eq_true.1 h
  have key : ∀ i o, ops[i]? = some o → ((o.after.toList.all fun e => !Region.binds .any e || decide (e.on < i)) &&
      ((List.range ops.length).all fun b => !isAnc anc b i || (decide (b < i) && o.after.toList.any fun e => Region.binds .any e && (e.on == b || isAnc anc b e.on))) &&
      ((List.range i).all fun x => isAnc anc x i || match ops[x]? with
        | none => false
        | some ox => Ev.okp ops ox o)) = true := fun i o hi => by
    have := h i (List.mem_range.2 (List.getElem?_eq_some_iff.1 hi).1)
    rw [hi] at this
    exact this
  refine ⟨fun i o hi e he hb => ?_, fun b i hb hi ha => ?_, fun b i o hb hi ha => ?_, fun x i ox o hlt hx hi ha => ?_⟩
  · have := key i o hi
    simp only [Bool.and_eq_true] at this
    have := List.all_eq_true.1 this.1.1 e he
    simpa [hb] using this
  · have := key i _ (List.getElem?_eq_getElem hi)
    simp only [Bool.and_eq_true] at this
    have := List.all_eq_true.1 this.1.2 b (List.mem_range.2 hb)
    simp only [ha, Bool.not_true, Bool.false_or, Bool.and_eq_true, decide_eq_true_eq] at this
    exact this.1
  · have := key i o hi
    simp only [Bool.and_eq_true] at this
    have := List.all_eq_true.1 this.1.2 b (List.mem_range.2 hb)
    simp only [ha, Bool.not_true, Bool.false_or, Bool.and_eq_true, decide_eq_true_eq] at this
    obtain ⟨e, he, h2⟩ := List.any_eq_true.1 this.2
    simp only [Bool.and_eq_true, Bool.or_eq_true, beq_iff_eq] at h2
    exact ⟨e, he, h2⟩
  · have := key i o hi
    simp only [Bool.and_eq_true] at this
    have := List.all_eq_true.1 this.2 x (List.mem_range.2 hlt)
    simpa [ha, hx] using this

theorem apartW (hst : Stat ops anc) {x i : Nat} {ox o : Oper} (hx : ops[x]? = some ox) (hi : ops[i]? = some o) (hne : x ≠ i) (hu : unord anc x i = true) {tm tm' : List AV} (cx : chkI W ops anc base x ox tm' = true) (ci : chkI W ops anc base i o tm = true)
    {j : Nat} (hj : j ∈ Wof W x) : (∀ id ∈ opAt tm o ++ Wof W i, j ≠ id) ∧ (isAl o.op = true → j ≠ base + offD ops i) := by
  have hxlt : x < ops.length := (List.getElem?_eq_some_iff.1 hx).1
  have hilt : i < ops.length := (List.getElem?_eq_some_iff.1 hi).1
  simp only [chkI, Bool.and_eq_true] at ci cx
  refine ⟨fun id hid e => ?_, fun hal e => ?_⟩
  · have := List.all_eq_true.1 ci.2 x (List.mem_range.2 hxlt)
    simp only [hu, Bool.not_true, Bool.or_false, Bool.or_eq_true, beq_iff_eq, hne, false_or] at this
    have := List.all_eq_true.1 this id hid
    subst e
    simp [hj] at this
  · have := List.all_eq_true.1 cx.1.1 j (List.mem_append_right _ hj)
    simp only [Bool.or_eq_true, decide_eq_true_eq] at this
    have hia' : isAlAt ops i = true := by simp only [isAlAt, hi, hal]
    rcases this with (h4 | h4) | h4
    · omega
    · have := offD_all hia'
      omega
    · obtain ⟨b', hb', h5⟩ := List.any_eq_true.1 h4
      simp only [Bool.and_eq_true, beq_iff_eq] at h5
      obtain ⟨⟨h6, h7⟩, h8⟩ := h5
      have : b' = i := offD_inj h7 hia' (by omega)
      subst this
      have hlt := hst.lt b' x hilt hxlt h6
      unfold unord at hu
      rw [if_pos hlt, h6] at hu
      cases hu

/-- What x writes, i does not look at. -/
theorem apartIds0 (hst : Stat ops anc) {x i : Nat} {ox o : Oper} (hx : ops[x]? = some ox) (hi : ops[i]? = some o) (hne : x ≠ i) (hu : unord anc x i = true) {tm tm' : List AV} (cx : chkI W ops anc base x ox tm' = true) (ci : chkI W ops anc base i o tm = true)
    {j : Nat} (hal : isAl ox.op = true) (hj : j = base + offD ops x ∨ j ∈ baseAt tm' ox) : (∀ id ∈ opAt tm o ++ Wof W i, j ≠ id) ∧ (isAl o.op = true → j ≠ base + offD ops i) := by
  by_cases hw0 : j ∈ Wof W x
  · exact apartW hst hx hi hne hu cx ci hw0
  have hilt : i < ops.length := (List.getElem?_eq_some_iff.1 hi).1
  have hxa : isAlAt ops x = true := by simp only [isAlAt, hx, hal]
  -- the op whose slot it is
  have hb : ∃ b, isAlAt ops b = true ∧ j = base + offD ops b ∧ isAnc anc b i = false ∧ b ≠ i := by
    rcases hj with rfl | hj
    · refine ⟨x, hxa, rfl, ?_, hne⟩
      have hxlt : x < ops.length := (List.getElem?_eq_some_iff.1 hx).1
      rcases Nat.lt_or_ge i x with h1 | h1
      · cases hc : isAnc anc x i with
        | false => rfl
        | true => have := hst.lt x i hxlt hilt hc; omega
      · unfold unord at hu
        rw [if_neg (by omega)] at hu
        simpa using hu
    · simp only [chkI, Bool.and_eq_true] at cx
      have := List.all_eq_true.1 cx.1.2 j hj
      rw [Bool.or_eq_true, Bool.or_eq_true] at this
      rcases this with (hw | h0) | this
      · exact absurd (by simpa using hw) hw0
      · have := List.all_eq_true.1 h0 i (List.mem_range.2 hilt)
        rw [hu] at this
        simp only [Bool.not_true, Bool.or_false, beq_iff_eq] at this
        exact absurd this.symm hne
      obtain ⟨b, hb, h1⟩ := List.any_eq_true.1 this
      simp only [Bool.and_eq_true, beq_iff_eq] at h1
      obtain ⟨⟨⟨h2, h3⟩, h4⟩, h5⟩ := h1
      have := List.all_eq_true.1 h5 i (List.mem_range.2 hilt)
      simp only [Bool.or_eq_true, beq_iff_eq, Bool.not_eq_true', Bool.and_eq_true, bne_iff_ne, ne_eq] at this
      rcases this with (h6 | h6) | h6
      · exact absurd h6.symm hne
      · rw [hu] at h6; cases h6
      · exact ⟨b, h2, h3, h6.1, fun e => h6.2 e.symm⟩
  obtain ⟨b, h1, rfl, h2, h3⟩ := hb
  refine ⟨fun id hid e => ?_, fun hal' e => ?_⟩
  · simp only [chkI, Bool.and_eq_true] at ci
    have := List.all_eq_true.1 ci.1.1 id hid
    simp only [Bool.or_eq_true, decide_eq_true_eq] at this
    rcases this with (h4 | h4) | h4
    · omega
    · have hh := offD_all h1
      omega
    · obtain ⟨b', hb', h5⟩ := List.any_eq_true.1 h4
      simp only [Bool.and_eq_true, beq_iff_eq] at h5
      obtain ⟨⟨h6, h7⟩, h8⟩ := h5
      have : b = b' := offD_inj h1 h7 (by omega)
      subst this
      rw [h2] at h6; cases h6
  · have hia : isAlAt ops i = true := by simp only [isAlAt, hi, hal']
    exact h3 (offD_inj h1 hia (by omega))

/-- What x writes, i does not look at. -/
theorem apartIds (hst : Stat ops anc) {x i : Nat} {ox o : Oper} (hx : ops[x]? = some ox) (hi : ops[i]? = some o) (hne : x ≠ i) (hu : unord anc x i = true) {tm tm' : List AV} (cx : chkI W ops anc base x ox tm' = true) (ci : chkI W ops anc base i o tm = true)
    {j : Nat} (hj : (isAl ox.op = true ∧ (j = base + offD ops x ∨ j ∈ baseAt tm' ox)) ∨ j ∈ Wof W x) : (∀ id ∈ opAt tm o ++ Wof W i, j ≠ id) ∧ (isAl o.op = true → j ≠ base + offD ops i) := by
  rcases hj with ⟨hal, hj⟩ | hj
  · exact apartIds0 hst hx hi hne hu cx ci hal hj
  · exact apartW hst hx hi hne hu cx ci hj

theorem putA_get {tm : List AV} {d : Option Tmp} {r : AV} {t : Nat} (h : ∀ d', d = some d' → d' ≠ t) : (putA tm d r)[t]? = tm[t]? := by
  cases d with
  | none => rfl
  | some d => exact List.getElem?_set_ne (h d rfl)
theorem putA_comm {tm : List AV} {d d' : Option Tmp} {r r' : AV} (h : ∀ a, d = some a → d' ≠ some a) : putA (putA tm d r) d' r' = putA (putA tm d' r') d r := by
  cases d with
  | none => cases d' <;> rfl
  | some a =>
    cases d' with
    | none => rfl
    | some b =>
      have : a ≠ b := fun e => h a rfl (by rw [e])
      exact List.set_comm _ _ this
theorem setAll_get : ∀ (ids : List Nat) (cs : List HC) {l l' : List HC} {k : Nat}, l.length = l'.length → l[k]? = l'[k]? → (setAll ids cs l)[k]? = (setAll ids cs l')[k]?
  | [], cs, l, l', k, _, h => by simpa [setAll] using h
  | id :: ids, [], l, l', k, _, h => by simpa [setAll] using h
  | id :: ids, c :: cs, l, l', k, hl, h => by
    simp only [setAll]
    refine setAll_get ids cs (by simpa using hl) ?_
    simp only [List.getElem?_set]
    by_cases e : id = k
    · subst e; simp [hl]
    · simp [e, h]
theorem setAll_comm {hp : List HC} {U U' : List Nat × List HC} (h : ∀ j ∈ U.1, ∀ j' ∈ U'.1, j ≠ j') : setAll U'.1 U'.2 (setAll U.1 U.2 hp) = setAll U.1 U.2 (setAll U'.1 U'.2 hp) := by
  apply List.ext_getElem?
  intro k
  by_cases hk : k ∈ U'.1
  · have hk' : k ∉ U.1 := fun h' => h k h' k hk rfl
    rw [setAll_out U.1 _ _ k hk', setAll_get (l' := hp) _ _ (setAll_len _ _ _) (setAll_out _ _ _ _ hk')]
  · rw [setAll_out U'.1 _ _ k hk]
    exact setAll_get _ _ (setAll_len _ _ _).symm (setAll_out _ _ _ _ hk).symm

/-- Two operations of which either may be first. -/
structure Pair (ops : List Oper) (anc : List Nat) (x i : Nat) (ox o : Oper) : Prop where
  hx : ops[x]? = some ox
  hi : ops[i]? = some o
  ne : x ≠ i
  u : unord anc x i = true
  d1 : ∀ d, ox.dst = some d → d ∉ Oper.looksAt ops.toArray o
  d2 : ∀ d, ox.dst = some d → o.dst ≠ some d
  sx : isStore ox.op = false
  si : isStore o.op = false

def Eff (W : List (Nat × List Nat)) (base x : Nat) (ops : List Oper) (ox : Oper) (st : St) (U : List Nat × List HC) : Prop := ∀ j ∈ U.1, (isAl ox.op = true ∧ (j = base + offD ops x ∨ j ∈ baseAt st.tm ox)) ∨ j ∈ Wof W x

theorem agree_app (hst : Stat ops anc) {x i : Nat} {ox o : Oper} (hp : Pair ops anc x i ox o) {st : St} (cx : chkI W ops anc base x ox st.tm = true) (ci : chkI W ops anc base i o st.tm = true) {r : AV} {U : List Nat × List HC} (hu : Eff W base x ops ox st U) :
    Agree (Wof W i) ops (base + offD ops i) o st (st.app ox r U) := by
  refine ⟨fun t ht => (putA_get fun d hd e => hp.d1 d hd (e ▸ ht)).symm, fun id hid => (setAll_out _ _ _ _ fun hj => ?_).symm, fun id hid => (setAll_out _ _ _ _ fun hj => ?_).symm, (setAll_len _ _ _).symm, fun hal => (setAll_out _ _ _ _ fun hj => ?_).symm⟩
  · exact (apartIds hst hp.hx hp.hi hp.ne hp.u cx ci (hu _ hj)).1 id (List.mem_append_left _ hid) rfl
  · exact (apartIds hst hp.hx hp.hi hp.ne hp.u cx ci (hu _ hj)).1 id (List.mem_append_right _ hid) rfl
  · exact (apartIds hst hp.hx hp.hi hp.ne hp.u cx ci (hu _ hj)).2 hal rfl

theorem app_comm (hst : Stat ops anc) {x i : Nat} {ox o : Oper} (hp : Pair ops anc x i ox o) {st : St} (cx : chkI W ops anc base x ox st.tm = true) (ci : chkI W ops anc base i o st.tm = true) {r r' : AV} {U U' : List Nat × List HC} (hu : Eff W base x ops ox st U) (hu' : Eff W base i ops o st U') :
    (st.app ox r U).app o r' U' = (st.app o r' U').app ox r U := by
  simp only [St.app]
  rw [putA_comm fun a ha => hp.d2 a ha, setAll_comm fun j hj j' hj' => ?_]
  obtain ⟨h5, h6⟩ := apartIds hst hp.hx hp.hi hp.ne hp.u cx ci (hu j hj)
  rcases hu' j' hj' with ⟨h3, rfl | h4⟩ | h4
  · exact h6 h3
  · exact h5 j' (List.mem_append_left _ (base_op h4))
  · exact h5 j' (List.mem_append_right _ h4)

theorem pair_of (hst : Stat ops anc) {x i : Nat} {ox o : Oper} (hlt : x < i) (hx : ops[x]? = some ox) (hi : ops[i]? = some o) (ha : isAnc anc x i = false) : Pair ops anc x i ox o ∧ Pair ops anc i x o ox ∧ (isCallV ox.op && isCallV o.op) = false := by
  have h := hst.okp x i ox o hlt hx hi ha
  simp only [okp, Bool.and_eq_true, Bool.not_eq_true'] at h
  obtain ⟨⟨⟨h1, h2⟩, h3⟩, h4⟩ := h
  obtain ⟨g1, g2, g3⟩ := Oper.apart_spec h1
  have hu : unord anc x i = true := by
    unfold unord
    rw [if_neg (by omega), ha]; rfl
  exact ⟨⟨hx, hi, by omega, hu, g1, g2, h2, h3⟩, ⟨hi, hx, by omega, unord_symm (by omega) hu, g3, fun d hd e => g2 d e hd, h3, h2⟩, h4⟩

theorem Val.eff {x : Nat} {ox : Oper} {st : St} {r : AV} {u : Option (Nat × HC)} (h : Val X ops (base + offD ops x) ox st r u) : Eff W base x ops ox st (ofU u) := fun j hj => by
  cases u with
  | none => cases hj
  | some q =>
    obtain ⟨j', c⟩ := q
    simp only [ofU, List.mem_singleton] at hj
    subst hj
    exact .inl (h.1 _ c rfl)

theorem val_same {slot : Nat} {o : Oper} {st : St} {r r' : AV} {u u' : Option (Nat × HC)} (h : Val X ops slot o st r u) (h' : Val X ops slot o st r' u') : st.app o r (ofU u) = st.app o r' (ofU u') := by
  unfold St.app
  rw [setAll_ofU, setAll_ofU]
  obtain ⟨_, ⟨h1, rfl, rfl⟩ | ⟨h1, p, h2, h3, h4⟩⟩ := h
  · obtain ⟨_, ⟨g1, rfl, rfl⟩ | ⟨g1, p', g2, g3, g4⟩⟩ := h'
    · rfl
    · rw [h1] at g1; cases g1
  · obtain ⟨_, ⟨g1, rfl, rfl⟩ | ⟨g1, p', g2, g3, g4⟩⟩ := h'
    · rw [h1] at g1; cases g1
    · rw [h2] at g2
      simp only [Option.some.injEq, Prod.mk.injEq] at g2
      rw [g2.2.1, g2.2.2]

/-- A call, told by what it hands back. -/
def evCV (P : Program) (X : Tbl P) (ids : List Nat) (ops : List Oper) (o : Oper) (st : St) (Φ : AV → List Nat × List HC → Prop) : Prop :=
  match wantD ops o st.tm with
  | some true => match o.op with
    | .call c => match c.callee with
      | .value f => match opd X 0 st.tm f with
        | .v (.fn k caps) => c.args.size = c.argTypes.size ∧ callW P k (argsD X c st.tm caps) st.hp ids fun r u => Φ r (ids, u)
        | _ => False
      | _ => False
    | _ => False
  | some false => Φ (.tup []) ([], [])
  | none => False

theorem evI_cv {slot : Nat} {o : Oper} {st : St} {K : St → Prop} (hc : isCallV o.op = true) : evI X ids ops slot o st K ↔ evCV P X ids ops o st fun r U => K (st.app o r U) := by
  unfold evI evCV
  cases hw : wantD ops o st.tm with
  | none => exact Iff.rfl
  | some b =>
    cases b with
    | false => exact Iff.rfl
    | true =>
      simp only [evA, fOp_callV hc]
      exact Iff.rfl

theorem evCV.mono {o : Oper} {st : St} {Φ Φ' : AV → List Nat × List HC → Prop} (h : evCV P X ids ops o st Φ) (hk : ∀ r U, (∀ j ∈ U.1, j ∈ ids) → Φ r U → Φ' r U) : evCV P X ids ops o st Φ' := by
  unfold evCV at h ⊢
  split at h
  · split at h
    · split at h
      · split at h
        · exact ⟨h.1, h.2.mono fun r u h => hk _ _ (fun _ hj => hj) h⟩
        · exact h.elim
      · exact h.elim
    · exact h.elim
  · exact hk _ _ (fun _ hj => by cases hj) h
  · exact h.elim

theorem cvsAt_append (l m : List CV) : cvsAt (l ++ m) = cvsAt l ++ cvsAt m := by
  induction l with
  | nil => rfl
  | cons a l ih => simp only [List.cons_append, cvsAt, ih, List.append_assoc]

theorem mem_cvsAt {id : Nat} : ∀ {l : List CV}, id ∈ cvsAt l → ∃ a ∈ l, id ∈ a.at
  | a :: l, h => by
    rcases List.mem_append.1 h with h | h
    · exact ⟨a, .head _, h⟩
    · obtain ⟨b, hb, h⟩ := mem_cvsAt h
      exact ⟨b, .tail _ hb, h⟩
theorem mem_caps {id : Nat} : ∀ {l : List SV}, id ∈ cvsAt (l.map CV.one) → id ∈ svsAt l
  | a :: l, h => by
    rcases List.mem_append.1 h with h | h
    · exact List.mem_append_left _ h
    · exact List.mem_append_right _ (mem_caps h)

theorem evCV.loc {slot : Nat} {o : Oper} {st st' : St} {Φ : AV → List Nat × List HC → Prop} (ha : Agree ids ops slot o st st') (h : evCV P X ids ops o st Φ) : evCV P X ids ops o st' Φ := by
  unfold evCV at h ⊢
  rw [← Agree.want (slot := slot) ha.tm]
  split at h
  · split at h
    · rename_i c ho
      split at h
      · rename_i f hcal
        split at h
        · rename_i k caps hk
          have hf : f ∈ o.op.operands := by
            rw [ho]
            simp only [Op.operands, Call.operands, hcal]
            simp
          have hargs : ∀ x ∈ c.args.toList, x ∈ o.op.operands := fun x hx => by
            rw [ho]
            simp only [Op.operands, Call.operands]
            simp
            exact .inr (Array.mem_toList_iff.1 hx)
          have hmap : ((c.args.toList.zip c.argTypes.toList).map fun x => (opd X x.2 st.tm x.1).cv) = ((c.args.toList.zip c.argTypes.toList).map fun x => (opd X x.2 st'.tm x.1).cv) :=
            List.map_congr_left fun p hp => by rw [Agree.opd (slot := slot) ha.tm (hargs p.1 (List.of_mem_zip hp).1)]
          rw [← Agree.opd (X := X) (slot := slot) ha.tm hf 0, hk]
          refine ⟨h.1, ?_⟩
          unfold argsD
          rw [← hmap]
          refine callW.loc (fun id hid => ?_) ha.hi ha.len h.2
          unfold argsD at hid
          rw [cvsAt_append] at hid
          rcases List.mem_append.1 hid with hid | hid
          · obtain ⟨a, hm, hid⟩ := mem_cvsAt hid
            obtain ⟨p, hp, rfl⟩ := List.mem_map.1 hm
            exact alike_cv (X := X) ha.hp (hargs p.1 (List.of_mem_zip hp).1) p.2 id hid
          · refine alike_cv (X := X) ha.hp hf 0 id ?_
            rw [hk]
            exact mem_caps hid
        · exact h.elim
      · exact h.elim
    · exact h.elim
  · exact h
  · exact h.elim

/-- An operation that has its turn falls out of those that are left. -/
theorem evD_drop (hst : Stat ops anc) {i : Nat} {o : Oper} (hi : ops[i]? = some o) {r : AV} {u : Option (Nat × HC)} {L2 : List Nat} {K : St → Prop} : ∀ (L1 : List Nat) (st : St),
    (∀ x ∈ L1, x < i ∧ isAnc anc x i = false) → Val X ops (base + offD ops i) o st r u → chkI W ops anc base i o st.tm = true → evD X W ops anc base (L1 ++ i :: L2) st K → isCallV o.op = false → isStore o.op = false → evD X W ops anc base (L1 ++ L2) (st.app o r (ofU u)) K
  | [], st, hL, hv, hc, h, hnc, hns => by
    simp only [List.nil_append, evD, hi] at h ⊢
    obtain ⟨r', u', hv', h'⟩ := val_of hns hnc h.2
    rwa [val_same hv hv']
  | x :: L1, st, hL, hv, hc, h, hnc, hns => by
    obtain ⟨hlt, ha⟩ := hL x (.head _)
    simp only [List.cons_append, evD] at h ⊢
    cases hx : ops[x]? with
    | none => rw [hx] at h; exact h.elim
    | some ox =>
      rw [hx] at h
      simp only at h ⊢
      obtain ⟨cx, h⟩ := h
      obtain ⟨p1, p2, p3⟩ := pair_of hst hlt hx hi ha
      have ag2 : Agree _ ops (base + offD ops x) ox st (st.app o r (ofU u)) := agree_app hst p2 hc cx hv.eff
      refine ⟨by rw [← Agree.chk (slot := base + offD ops x) ag2.tm]; exact cx, ?_⟩
      cases hcx : isCallV ox.op with
      | false =>
        obtain ⟨rx, ux, hvx, h⟩ := val_of p1.sx hcx h
        have ag1 : Agree _ ops (base + offD ops i) o st (st.app ox rx (ofU ux)) := agree_app hst p1 cx hc hvx.eff
        have := evD_drop hst hi L1 (st.app ox rx (ofU ux)) (fun y hy => hL y (.tail _ hy)) (hv.loc p1.si ag1) (by rw [← Agree.chk (slot := base + offD ops i) ag1.tm]; exact hc) h hnc hns
        rw [app_comm hst p1 cx hc hvx.eff hv.eff] at this
        exact of_val (hvx.loc p1.sx ag2) this
      | true =>
        rw [evI_cv hcx] at h ⊢
        refine (h.loc ag2).mono fun rx Ux hU h => ?_
        have hux : Eff W base x ops ox st Ux := fun j hj => .inr (hU j hj)
        have ag1 : Agree _ ops (base + offD ops i) o st (st.app ox rx Ux) := agree_app hst p1 cx hc hux
        have := evD_drop hst hi L1 (st.app ox rx Ux) (fun y hy => hL y (.tail _ hy)) (hv.loc p1.si ag1) (by rw [← Agree.chk (slot := base + offD ops i) ag1.tm]; exact hc) h hnc hns
        rwa [app_comm hst p1 cx hc hux hv.eff] at this

/-- A call that has its turn goes ahead of the others. -/
theorem evD_call (hst : Stat ops anc) {i : Nat} {o : Oper} (hi : ops[i]? = some o) {L2 : List Nat} {K : St → Prop} (hcv : isCallV o.op = true) : ∀ (L1 : List Nat) (st : St),
    (∀ x ∈ L1, x < i ∧ isAnc anc x i = false) → evD X W ops anc base (L1 ++ i :: L2) st K → chkI W ops anc base i o st.tm = true ∧ evI X (Wof W i) ops (base + offD ops i) o st fun s => evD X W ops anc base (L1 ++ L2) s K
  | [], st, hL, h => by
    simp only [List.nil_append, evD, hi] at h ⊢
    exact h
  | x :: L1, st, hL, h => by
    obtain ⟨hlt, ha⟩ := hL x (.head _)
    simp only [List.cons_append, evD] at h ⊢
    cases hx : ops[x]? with
    | none => rw [hx] at h; exact h.elim
    | some ox =>
      rw [hx] at h
      simp only at h ⊢
      obtain ⟨cx, h⟩ := h
      obtain ⟨p1, p2, p3⟩ := pair_of hst hlt hx hi ha
      rw [hcv, Bool.and_true] at p3
      obtain ⟨rx, ux, hvx, h⟩ := val_of p1.sx p3 h
      obtain ⟨c1, h⟩ := evD_call hst hi hcv L1 _ (fun y hy => hL y (.tail _ hy)) h
      have tmx : ∀ t ∈ Oper.looksAt ops.toArray o, st.tm[t]? = (st.app ox rx (ofU ux)).tm[t]? := fun t ht => (putA_get fun d hd e => p1.d1 d hd (e ▸ ht)).symm
      have ci : chkI W ops anc base i o st.tm = true := by rw [Agree.chk (slot := base + offD ops i) tmx]; exact c1
      have ag1 : Agree _ ops (base + offD ops i) o st (st.app ox rx (ofU ux)) := agree_app hst p1 cx ci hvx.eff
      refine ⟨ci, ?_⟩
      rw [evI_cv hcv] at h ⊢
      refine (h.loc ag1.symm).mono fun r U hU h => ?_
      have hur : Eff W base i ops o st U := fun j hj => .inr (hU j hj)
      have ag2 : Agree _ ops (base + offD ops x) ox st (st.app o r U) := agree_app hst p2 ci cx hur
      refine ⟨by rw [← Agree.chk (slot := base + offD ops x) ag2.tm]; exact cx, of_val (hvx.loc p1.sx ag2) ?_⟩
      rw [← app_comm hst p1 cx ci hvx.eff hur]
      exact h
end
end Go.Proofs.Ytgkjgpiggjjmpaa.Ev
