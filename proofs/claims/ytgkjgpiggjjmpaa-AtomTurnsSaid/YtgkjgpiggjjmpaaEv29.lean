/- Lemmas for the claim: Any order will do. (no condition.) -/
import Derived.Test.YtgkjgpiggjjmpaaEv28
/-! Any order will do. -/
namespace Go.Proofs.Ytgkjgpiggjjmpaa.Ev
open Go
set_option linter.unusedVariables false

section
variable {P : Program} {X : Tbl P} {W : List (Nat × List Nat)} {ids : List Nat} {ops : List Oper} {anc : List Nat} {base : Nat} {w0 : World} {S : Who} {E0 : Env} {n : Nat}

theorem want_ok {o : Oper} {st : St} {a : Act} {w : World} (hr : Rel w0 S E0 n st a w) {b : Bool} (h : wantD ops o st.tm = some b) : Region.wanted o (yielded ops.toArray a.tmps) = b := by
  unfold wantD at h
  split at h
  · rename_i hg
    simp only [Option.some.injEq] at h
    subst h
    simp [Region.wanted, hg]
  · rename_i j want hg
    split at h
    · cases h
    · rename_i d hd
      have hd' : (ops.toArray[j]?).bind (·.dst) = some d := by simpa using hd
      split at h
      · rename_i x hx
        simp only [Option.some.injEq] at h
        subst h
        have hxv := hr.bool hx
        simp only [Region.wanted, hg, yielded, hd', Option.bind_some, hxv]
        cases x <;> cases want <;> rfl
      · rename_i hx
        simp only [Option.some.injEq] at h
        subst h
        have hxv := hr.tup hx
        simp only [Region.wanted, hg, yielded, hd', Option.bind_some, hxv]
        rfl
      · cases h

theorem evI_ok {i slot : Nat} {o : Oper} (hi : ops[i]? = some o) {st : St} {K : St → Prop} {a : Act} {w : World} (hr : Rel w0 S E0 n st a w) (h : evI X ids ops slot o st K)
    (next : Act → World → Prop) (Q : Exit → Act → World → Prop) (hnext : ∀ st a w, K st → Rel w0 S E0 n st a w → next a w) : wpOp P ops.toArray Q i next a w := by
  have hi' : ops.toArray[i]? = some o := by simpa using hi
  unfold evI at h
  split at h
  · rename_i b hb
    have hw := want_ok hr hb
    simp only [wpOp, hi', hw]
    cases b with
    | true =>
      simp only [if_true]
      exact .inl (evOp1_ok (Md_ok P ids) hr (evA_evOp1 h) next Q hnext)
    | false =>
      simp only [Bool.false_eq_true, if_false]
      exact hnext _ _ _ h (hr.skip o.dst)
  · exact h.elim

theorem ghost {slot : Nat} {o : Oper} {st : St} {K : St → Prop} {a : Act} {w : World} (hr : Rel w0 S E0 n st a w) (h : evI X ids ops slot o st K) : ∃ st' a' w', K st' ∧ Rel w0 S E0 n st' a' w' := by
  unfold evI at h
  split at h
  · rename_i b hb
    cases b with
    | false => exact ⟨_, _, _, h, hr.skip o.dst⟩
    | true =>
      simp only at h
      obtain ⟨E, rfl, hhp, hR, hT, hle, hdef⟩ := hr
      unfold evA at h
      split at h
      · rename_i p r hp' hf
        obtain ⟨hp, hslot, hK⟩ := h
        rw [← hhp] at hf
        obtain ⟨nx, E', h1, h2, h3, h4, h5⟩ := fOp_ok hR hT (fun h => by rw [hhp]; exact hslot h) hf hp
        rcases h5 with ⟨v, rfl, hv⟩ | ⟨rfl, rfl⟩
        · exact ⟨_, a.put o.dst v, E'.w, hK, E', rfl, h2, h4, (hT.le h3).put o.dst hv, hle.trans (h3.n n), by cases o.dst <;> exact hdef⟩
        · exact ⟨_, a.put o.dst undef, E'.w, hK, E', rfl, h2, h4, (hT.le h3).put o.dst (v := undef) trivial, hle.trans (h3.n n), by cases o.dst <;> exact hdef⟩
      · split at h
        · rename_i c ho
          split at h
          · rename_i f hcal
            split at h
            · rename_i k caps hfn
              obtain ⟨hsize, h⟩ := h
              obtain ⟨_, hcall⟩ := callW_ok (K := fun r hp' => K ⟨putA st.tm o.dst r, hp'⟩) h
              have hfv := opd_ok (X := X) hT 0 f
              rw [hfn] at hfv
              obtain ⟨vs, hfv, hcaps⟩ := hfv
              have hargs : Segs (fun a cs => ∃ v, cs = [v] ∧ CVR E a v) (((c.args.toList.zip c.argTypes.toList).map fun x => (opd X x.2 st.tm x.1).cv) ++ caps.map CV.one) (c.args.toList.map a.eval ++ vs) := by
                refine Segs.append ?_ ?_
                · rw [← zip_fst a.eval c.args.toList c.argTypes.toList (by simpa using hsize)]
                  exact segs_args hT _
                · exact segs_caps hcaps
              obtain ⟨e, w', fr, ⟨av, E', v, h1, h2, h3, h4, h5, h6⟩, _⟩ := hcall w0 S E _ hR hhp hargs []
              subst h3
              exact ⟨_, a.put o.dst v, E'.w, h2, E', rfl, rfl, h5, (hT.le h4).put o.dst h6, hle.trans (h4.n n), by cases o.dst <;> exact hdef⟩
            · exact h.elim
          · exact h.elim
        · exact h.elim
  · exact h.elim

/-- What an operation that has its turn comes to. -/
theorem evD_dig (hst : Stat ops anc) {i : Nat} {o : Oper} (hi : ops[i]? = some o) (hnc : isCallV o.op = false) (hns : isStore o.op = false) {L2 : List Nat} {K : St → Prop} : ∀ (L1 : List Nat) (st : St) (a : Act) (w : World), Rel w0 S E0 n st a w →
    (∀ x ∈ L1, x < i ∧ isAnc anc x i = false) → evD X W ops anc base (L1 ++ i :: L2) st K → ∃ r u, Val X ops (base + offD ops i) o st r u ∧ chkI W ops anc base i o st.tm = true
  | [], st, a, w, hr, hL, h => by
    simp only [List.nil_append, evD, hi] at h
    obtain ⟨r, u, hv, _⟩ := val_of hns hnc h.2
    exact ⟨r, u, hv, h.1⟩
  | x :: L1, st, a, w, hr, hL, h => by
    obtain ⟨hlt, ha⟩ := hL x (.head _)
    simp only [List.cons_append, evD] at h
    cases hx : ops[x]? with
    | none => rw [hx] at h; exact h.elim
    | some ox =>
      rw [hx] at h
      simp only at h
      obtain ⟨cx, h⟩ := h
      obtain ⟨p1, p2, p3⟩ := pair_of hst hlt hx hi ha
      have h' : evI X (Wof W x) ops (base + offD ops x) ox st fun s => evD X W ops anc base (L1 ++ i :: L2) s K ∧ ∃ rx ux, s = st.app ox rx ux ∧ Eff W base x ops ox st ux := by
        cases hcx : isCallV ox.op with
        | false =>
          obtain ⟨rx, ux, hvx, h⟩ := val_of p1.sx hcx h
          exact of_val hvx ⟨h, rx, ofU ux, rfl, hvx.eff⟩
        | true =>
          rw [evI_cv hcx] at h ⊢
          exact h.mono fun rx U hU h => ⟨h, rx, U, rfl, fun j hj => .inr (hU j hj)⟩
      obtain ⟨st', a', w', ⟨hk, rx, ux, rfl, hux⟩, hr'⟩ := ghost hr h'
      obtain ⟨r, u, hv, hc⟩ := evD_dig hst hi hnc hns L1 _ a' w' hr' (fun y hy => hL y (.tail _ hy)) hk
      have tmx : ∀ t ∈ Oper.looksAt ops.toArray o, st.tm[t]? = (st.app ox rx ux).tm[t]? := fun t ht => (putA_get fun d hd e => p1.d1 d hd (e ▸ ht)).symm
      have ci : chkI W ops anc base i o st.tm = true := by rw [Agree.chk (slot := base + offD ops i) tmx]; exact hc
      exact ⟨r, u, hv.loc hns (agree_app hst p1 cx ci hux).symm, ci⟩

/-- A ready one is brought to the front. -/
theorem evD_front (hst : Stat ops anc) {i : Nat} {o : Oper} (hi : ops[i]? = some o) {L1 L2 : List Nat} {K : St → Prop} {st : St} {a : Act} {w : World} (hr : Rel w0 S E0 n st a w) (hL : ∀ x ∈ L1, x < i ∧ isAnc anc x i = false)
    (h : evD X W ops anc base (L1 ++ i :: L2) st K) : evI X (Wof W i) ops (base + offD ops i) o st fun s => evD X W ops anc base (L1 ++ L2) s K := by
  cases L1 with
  | nil =>
    simp only [List.nil_append, evD, hi] at h ⊢
    exact h.2
  | cons x L1 =>
    cases hcv : isCallV o.op with
    | true => exact (evD_call hst hi hcv _ _ hL h).2
    | false =>
      have hns : isStore o.op = false := by
        obtain ⟨hlt, ha⟩ := hL x (.head _)
        simp only [List.cons_append, evD] at h
        cases hx : ops[x]? with
        | none => rw [hx] at h; exact h.elim
        | some ox => exact (pair_of hst hlt hx hi ha).1.si
      obtain ⟨r, u, hv, hc⟩ := evD_dig hst hi hcv hns _ _ a w hr hL h
      exact of_val hv (evD_drop hst hi _ _ hL hv hc h hcv hns)

def unl (N : Nat) (listed : Array Bool) : List Nat := (List.range N).filter fun i => !listed.getD i true

theorem anc_listed (hst : Stat ops anc) {listed : Array Bool} (hcl : ∀ i o, ops[i]? = some o → listed.getD i false = true → ∀ e ∈ o.after.toList, Region.binds .any e = true → listed.getD e.on false = true) :
    ∀ (i : Nat) (o : Oper), ops[i]? = some o → (∀ e ∈ o.after.toList, Region.binds .any e = true → listed.getD e.on false = true) → ∀ b, b < ops.length → isAnc anc b i = true → listed.getD b false = true := by
  intro i
  induction i using Nat.strongRecOn with
  | _ i ih =>
    intro o hi hall b hb ha
    obtain ⟨e, he, hbe, h⟩ := hst.up b i o hb hi ha
    have h1 := hall e he hbe
    rcases h with rfl | h
    · exact h1
    · have hlt := hst.on i o hi e he hbe
      have hl : e.on < ops.length := Nat.lt_trans hlt (List.getElem?_eq_some_iff.1 hi).1
      exact ih e.on hlt _ (List.getElem?_eq_getElem hl) (hcl _ _ (List.getElem?_eq_getElem hl) h1) b hb h

theorem evD_any (hst : Stat ops anc) {Q : Exit → Act → World → Prop} {K : St → Prop} (hQ : ∀ st a w, K st → Rel w0 S E0 n st a w → Q .normal a w) :
    ∀ (fuel : Nat) (listed : Array Bool) (st : St) (a : Act) (w : World), listed.size = ops.length → fuel = (unl ops.length listed).length →
      (∀ i o, ops[i]? = some o → listed.getD i false = true → ∀ e ∈ o.after.toList, Region.binds .any e = true → listed.getD e.on false = true) →
      Rel w0 S E0 n st a w → evD X W ops anc base (unl ops.length listed) st K → wpAny P .any ops.toArray Q fuel listed a w := by
  intro fuel
  have getD_eq : ∀ (listed : Array Bool) (i : Nat), listed.size = ops.length → i < ops.length → listed.getD i true = listed.getD i false := fun listed i h1 h2 => by
    rw [Array.getD_eq_getD_getElem?, Array.getD_eq_getD_getElem?, Array.getElem?_eq_getElem (by omega)]; rfl
  induction fuel with
  | zero =>
    intro listed st a w hsz hf hcl hr h
    have hnil : unl ops.length listed = [] := List.eq_nil_of_length_eq_zero hf.symm
    rw [hnil] at h
    refine ⟨?_, hQ st a w h hr⟩
    cases hrd : Region.ready .any ops.toArray listed with
    | nil => rfl
    | cons i l =>
      have : i ∈ Region.ready .any ops.toArray listed := by rw [hrd]; exact .head _
      simp only [Region.ready, List.mem_filter, Bool.and_eq_true] at this
      have hm : i ∈ unl ops.length listed := List.mem_filter.2 ⟨by simpa using this.1, this.2.1⟩
      rw [hnil] at hm
      cases hm
  | succ fuel ih =>
    intro listed st a w hsz hf hcl hr h
    refine ⟨fun hrd => ?_, fun i hrdy => ?_⟩
    · -- something is ready
      exfalso
      cases hL : unl ops.length listed with
      | nil => rw [hL] at hf; simp at hf
      | cons i l =>
        have hmem : i ∈ unl ops.length listed := by rw [hL]; exact .head _
        have hi2 := List.mem_filter.1 hmem
        have hilt : i < ops.length := List.mem_range.1 hi2.1
        have hpw : (unl ops.length listed).Pairwise (· < ·) := List.Pairwise.filter _ List.pairwise_lt_range
        rw [hL, List.pairwise_cons] at hpw
        have : i ∈ Region.ready .any ops.toArray listed := by
          simp only [Region.ready, List.mem_filter, Bool.and_eq_true]
          refine ⟨by simpa using hilt, hi2.2, ?_⟩
          have hgi : ops.toArray[i]? = some ops[i] := by simp [hilt]
          rw [hgi]
          simp only [Option.map_some, Option.getD_some]
          rw [Array.all_eq_true']
          intro e he
          cases hb : Region.binds .any e with
          | false => rfl
          | true =>
            have hlt := hst.on i _ (List.getElem?_eq_getElem hilt) e (Array.mem_toList_iff.2 he) hb
            simp only [Bool.not_true, Bool.false_or]
            cases hg : listed.getD e.on false with
            | true => rfl
            | false =>
              have hm2 : e.on ∈ unl ops.length listed := List.mem_filter.2 ⟨List.mem_range.2 (by omega), by rw [getD_eq listed e.on hsz (by omega), hg]; rfl⟩
              rw [hL] at hm2
              rcases List.mem_cons.1 hm2 with e1 | hm2
              · omega
              · have := hpw.1 _ hm2; omega
        rw [hrd] at this
        cases this
    · simp only [Region.ready, List.mem_filter, Bool.and_eq_true] at hrdy
      obtain ⟨h1, h2, h3⟩ := hrdy
      have hilt : i < ops.length := by simpa using h1
      have hi : ops[i]? = some ops[i] := List.getElem?_eq_getElem hilt
      have hgi : ops.toArray[i]? = some ops[i] := by simp [hilt]
      rw [hgi] at h3
      simp only [Option.map_some, Option.getD_some] at h3
      rw [Array.all_eq_true'] at h3
      have hall : ∀ e ∈ (ops[i]).after.toList, Region.binds .any e = true → listed.getD e.on false = true := fun e he hb => by
        have := h3 e (Array.mem_toList_iff.1 he)
        simpa [hb] using this
      have hmem : i ∈ unl ops.length listed := List.mem_filter.2 ⟨List.mem_range.2 hilt, h2⟩
      obtain ⟨L1, L2, hL⟩ := List.append_of_mem hmem
      have hpw : (unl ops.length listed).Pairwise (· < ·) := List.Pairwise.filter _ List.pairwise_lt_range
      rw [hL] at hpw h
      have hpw' := List.pairwise_append.1 hpw
      have hL1 : ∀ x ∈ L1, x < i ∧ isAnc anc x i = false := fun x hx => by
        have hxi : x < i := hpw'.2.2 x hx i (.head _)
        refine ⟨hxi, ?_⟩
        cases hc : isAnc anc x i with
        | false => rfl
        | true =>
          have hl := anc_listed hst hcl i _ hi hall x (by omega) hc
          have hxu : x ∈ unl ops.length listed := by rw [hL]; exact List.mem_append_left _ hx
          have := (List.mem_filter.1 hxu).2
          rw [getD_eq listed x hsz (by omega), hl] at this
          cases this
      have hfront := evD_front hst hi hr hL1 h
      have hget : ∀ (j : Nat) (d : Bool), (listed.setIfInBounds i true).getD j d = if i = j then (if j < ops.length then true else d) else listed.getD j d := fun j d => by
        rw [Array.getD_eq_getD_getElem?, Array.getD_eq_getD_getElem?, Array.getElem?_setIfInBounds]
        by_cases e : i = j
        · subst e
          simp [hsz, hilt]
        · simp [e]
      have hunl : unl ops.length (listed.setIfInBounds i true) = L1 ++ L2 := by
        have e1 : unl ops.length (listed.setIfInBounds i true) = (unl ops.length listed).filter (fun j => j != i) := by
          unfold unl
          rw [List.filter_filter]
          refine List.filter_congr fun j hj => ?_
          have hjl := List.mem_range.1 hj
          rw [hget]
          by_cases e : i = j
          · subst e; simp [hjl]
          · simp [e, Ne.symm e]
        rw [e1, hL, List.filter_append, List.filter_cons]
        have g1 : L1.filter (fun j => j != i) = L1 := List.filter_eq_self.2 fun x hx => by have := (hL1 x hx).1; simp; omega
        have g2 : L2.filter (fun j => j != i) = L2 := List.filter_eq_self.2 fun x hx => by
          have := (List.pairwise_cons.1 hpw'.2.1).1 x hx; simp; omega
        rw [g1, g2]
        simp
      refine evI_ok hi hr hfront _ Q fun st' a' w' hk hr' => ?_
      refine ih _ st' a' w' (by simpa using hsz) ?_ (fun j o hj hlj e he hb => ?_) hr' (by rw [hunl]; exact hk)
      · rw [hunl, List.length_append]
        rw [hL, List.length_append, List.length_cons] at hf
        omega
      · rw [hget] at hlj ⊢
        by_cases e1 : i = j
        · subst e1
          rw [hi] at hj
          simp only [Option.some.injEq] at hj
          subst hj
          have := hall e he hb
          split
          · rename_i e2
            rw [if_pos (by rw [← e2]; exact hilt)]
          · exact this
        · rw [if_neg e1] at hlj
          have := hcl j o hj hlj e he hb
          split
          · rename_i e2
            rw [if_pos (by rw [← e2]; exact hilt)]
          · exact this

theorem drawD_ok (hm : P.follows .mixedOrders = true) : DrawOk P (drawD X) := by
  intro w0 S E0 n id ops st K Q a w h hr hQ
  obtain ⟨hs, W, ids, base, h⟩ := h
  have hst := stat_of hs
  refine wp_region_any hm ?_
  have hr1 : Rel w0 S E0 n (fz ids st) a { w with drawn := w.drawn + 1 } := by
    have hr0 := Rel.fz (l := ids) hr
    obtain ⟨E, rfl, h2, h3, h4, h5, h6⟩ := hr0
    obtain ⟨g1, g2⟩ := h3.draw { E.w with drawn := E.w.drawn + 1 } rfl rfl rfl rfl
    exact ⟨E.draw _, rfl, h2, g2, h4.le g1, h5.trans (g1.n n), h6⟩
  have hun : unl ops.toList.length (Array.replicate ops.size false) = List.range ops.toList.length := by
    unfold unl
    refine List.filter_eq_self.2 fun i hi => ?_
    have := List.mem_range.1 hi
    rw [Array.getD_eq_getD_getElem?, Array.getElem?_replicate, if_pos (by simpa using this)]
    rfl
  have := evD_any (P := P) (X := X) (base := base) hst hQ ops.size (Array.replicate ops.size false) (fz ids st) a { w with drawn := w.drawn + 1 } (by simp) (by rw [hun]; simp) (fun i o hi hl => by
    exfalso
    rw [Array.getD_eq_getD_getElem?, Array.getElem?_replicate] at hl
    split at hl <;> cases hl) hr1 (by rw [hun]; exact h)
  simpa using this
end
end Go.Proofs.Ytgkjgpiggjjmpaa.Ev
