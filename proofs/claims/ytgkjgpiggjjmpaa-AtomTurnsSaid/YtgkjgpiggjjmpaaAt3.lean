/- Lemmas for the claim: walks of functions that the law calls (no condition.) -/
import Derived.Test.YtgkjgpiggjjmpaaAt2
namespace Go.Proofs.Ytgkjgpiggjjmpaa.Ev
open Go
set_option linter.unusedVariables false
set_option linter.unusedSimpArgs false
set_option maxRecDepth 100000
set_option maxHeartbeats 4000000

theorem insMay_regs {x : Ins} {n : Int} (h : insMay x n = true) : (0 ≤ x.2.1 ∧ x.2.1 < 8) ∧ (0 ≤ x.2.2.1 ∧ x.2.2.1 < 8) ∧ (0 ≤ x.2.2.2.1 ∧ x.2.2.2.1 < 8) := by
  have key : ∀ (n : Int) (u : Bool), regOk n u = true → 0 ≤ n ∧ n < 8 := fun n u h => by
    cases u <;> simp [regOk] at h <;> omega
  simp only [insMay, Bool.and_eq_true] at h
  exact ⟨key _ _ h.1.1.1.2, key _ _ h.1.1.2, key _ _ h.1.2⟩
theorem right_ins {p : List Ins} {x : Ins} (h : isaRight p = true) (hx : x ∈ p) : insMay x p.length = true := by
  simp only [isaRight, Bool.and_eq_true, Bool.not_eq_true', List.any_eq_false] at h
  simpa using h.2 x hx
theorem core_ins {p : List Ins} {c : Core} (h : coreRight p c = true) : 0 ≤ c.2.1 ∧ c.2.1 < p.length ∧ insMay (p.getD c.2.1.toNat insZ) p.length = true := by
  simp only [coreRight, Bool.and_eq_true, decide_eq_true_eq] at h
  refine ⟨h.1.2, h.2, right_ins h.1.1 ?_⟩
  rw [List.getD_eq_getElem?_getD, List.getElem?_eq_getElem (by omega)]
  exact List.getElem_mem _
theorem core_len {p : List Ins} {c : Core} (h : coreRight p c = true) : (p.length : Int) ≤ 64 := by
  simp only [coreRight, isaRight, Bool.and_eq_true, decide_eq_true_eq] at h
  exact h.1.1.1.1.2

theorem core_facts {p : List Ins} {regs : List Int} {pc : Int} {halted : Bool} (h : (!coreRight p (regs, pc, halted, ())) = false) : 0 ≤ pc ∧ pc < p.length ∧ (p.length : Int) ≤ 64 ∧ (0 ≤ (p.getD pc.toNat (0, 0, 0, 0, 0, ())).2.1 ∧ (p.getD pc.toNat (0, 0, 0, 0, 0, ())).2.1 < 8) ∧
    (0 ≤ (p.getD pc.toNat (0, 0, 0, 0, 0, ())).2.2.1 ∧ (p.getD pc.toNat (0, 0, 0, 0, 0, ())).2.2.1 < 8) ∧ (0 ≤ (p.getD pc.toNat (0, 0, 0, 0, 0, ())).2.2.2.1 ∧ (p.getD pc.toNat (0, 0, 0, 0, 0, ())).2.2.2.1 < 8) := by
  have h : coreRight p (regs, pc, halted, ()) = true := by simpa using h
  obtain ⟨h1, h2, h3⟩ := core_ins h
  obtain ⟨h4, h5, h6⟩ := insMay_regs h3
  exact ⟨h1, h2, core_len h, h4, h5, h6⟩

theorem t27 : c27.Ok Try.prog 27 := by
  have H : Deps Try.prog con [84, 85] := Deps.cons (c := .val c84) con84 t84 (Deps.cons (c := .val c85) con85 t85 (Deps.nil))
  refine con_val (X := X) (M := tabM Try.prog con [84, 85]) (D := drawT X con [84, 85] []) (tabM_ok H) (drawT_ok mixed H []) Try.func27 (by decide) rfl Try.ntmps27 Try.results27 (Nat.le_of_ble_eq_true rfl) ?_
  rintro ⟨(p : List Ins), ⟨(regs : List Int), (pc : Int), (halted : Bool), ⟨⟩⟩, (words : Int), ⟨⟩⟩ hw
  unfold evW
  simp (maxSteps := 100000000) only [evC_seq, evC_region, evC_skip, evC_exit, evC_ret, evC_block, evC_condT, evC_condC, cvsBnd, CV.bnd, svsBnd, SV.bnd, Ty.bnd, implies_true, know, lenKnow, evOps_nil, evOps_none, evOps_some, stD_some, stV_bool, stV_tup, evOp_eq, isFun, evOp1_stI, stI_true, stI_false, stN_call, stN_nil, stF_some, stC_fn, evC_draw, wantD, isCallV, argsD, evOp1.rowLen, prep, fz, cvIds, svIds, CV.ids, SV.ids, isRow, frzH, frzAV, frzCV, frzSV, frzHC, fOp, countAl, isAl, opd, constV, putA, AV.cv, CV.sv, oint, ones, intOf, indexAddrF, loadF, storeF, convF, fieldAddrF, fieldF, indexF, sliceF, lenF, appendF, unF, binF, binI, shI, isSh, leafStart, nleaves, sumsz, SV.size, Ty.sz, Ty.isPair, Ty.isAgg, boxOf, rowOf, rowVal, getp, setp, asT, leavesOf, isLive, expl, zl, bld, elems, toT, asm, isSl, Ty.part, fpath, resVars, resVar, resAV, Ty.z, Ty.D, List.replicate, List.append_nil, List.map, List.length, List.all, List.drop, List.take, List.getElem?_cons_zero, List.getElem?_cons_succ, List.cons_append, List.nil_append, List.zip_cons_cons, List.zip_nil_left, List.size_toArray, Option.isSome, Option.map, Option.bind, Option.getD, Option.map_some, Option.map_none, if_true, if_false, true_and, and_true, Bool.false_eq_true, Bool.and_true, Bool.true_and, false_implies, true_implies, reduceCtorEq, Nat.reduceSub, Nat.reduceAdd, Nat.reduceMul, Nat.reduceLT, Nat.reduceLeDiff, Nat.reduceEqDiff, Nat.add_zero, Nat.zero_add, ↓reduceIte, ↓reduceDIte, cast_eq, and_self, and_false, false_and, decide_true, decide_false, not_false_eq_true, not_true_eq_false, ne_eq, drawT_eq, drawX_eq, spcOf, vL_nil, vL_none, vL_guard, gD_some, gX_tup, gX_bool, vW_true, vW_false, vA_false, vA_call, vF_some, vC_fn, uD_true, uD_false, uG_val, uG_lend, uC_true, uC_false, uS_some, uV_some, uK_eq, uL_eq, uG_fresh, uF_eq, uX_some, uY_eq, pos, isFreshAt, uR_some, tabM_eq, tD_true, tD_false, tG_val, tG_lend, tC_true, tC_false, tS_some, tV_some, tK_eq, tL_eq, tR_some, typed, cvs, vcon, finV_some, finS_some, finX_some, snapArgs, snapCV, snapSV, snaps, leafC, snapArgsS, snapCVS, snapS, snapsS, CV.cl, SV.cl, AV.cl, AV.flat, CV.flat, SV.flat, HC.flat, Ty.flat, renAV, renCV, renSV, renHC, up, sig, idx, backHp, setAll, lendHp, reach, reachBox, addId, cvsAt, svsAt, CV.at, SV.at, List.foldl, List.flatMap_cons, List.flatMap_nil, List.contains, List.elem, Nat.reduceBEq, noDup, isLiveAt, Wof, Bool.or_true, Bool.true_or, Bool.or_false, Bool.false_or, Bool.not_true, Bool.not_false, Bool.and_false, Bool.false_and, beq_self_eq_true, List.isEmpty, BEq.rfl, or_true, true_or, or_false, false_or, List.getD_nil, Nat.sub_self, forall_const, mkS_set, mkS_getD, mkS_get, mkS_len, mkS_frz0, mkS_frz1, lookA, argL, keepS, List.getD_cons_zero, List.getD_cons_succ, List.set, xfrz, frzL, bne_self_eq_false, xg3, i3, xg4, i4, xg29, i29, xg61, i61, xg63, i63, xg67, i67, xg69, i69, xg142, i142, xe67, xe142, xe61, xe63, con84, c84, con85, c85]
  have hw : words ≤ 140737488355328 := hw
  have hf := @core_facts p regs pc halted
  repeat' (first | refine ite_b (fun _ => ?_) (fun _ => ?_) | refine and_hold (by kernel_rfl) ?_ | refine and_of ?_ (fun _ => ?_) | intro _)
  all_goals first
    | exact hw
    | (have hf := hf (by assumption); omega)
    | (clear hf; simp_all [wants, insZ]; done)
theorem t147 : c147.Ok Try.prog 147 := by
  have H : Deps Try.prog con [84, 178] := Deps.cons (c := .val c84) con84 t84 (Deps.cons (c := .val c178) con178 t178 (Deps.nil))
  refine con_val (X := X) (M := tabM Try.prog con [84, 178]) (D := drawT X con [84, 178] []) (tabM_ok H) (drawT_ok mixed H []) Try.func147 (by decide) rfl Try.ntmps147 Try.results147 (Nat.le_of_ble_eq_true rfl) ?_
  rintro ⟨(p : List Ins), ⟨(regs : List Int), (pc : Int), (halted : Bool), ⟨⟩⟩, (was : Int), ⟨⟩⟩ -
  unfold evW
  simp (maxSteps := 100000000) only [evC_seq, evC_region, evC_skip, evC_exit, evC_ret, evC_block, evC_condT, evC_condC, cvsBnd, CV.bnd, svsBnd, SV.bnd, Ty.bnd, implies_true, know, lenKnow, evOps_nil, evOps_none, evOps_some, stD_some, stV_bool, stV_tup, evOp_eq, isFun, evOp1_stI, stI_true, stI_false, stN_call, stN_nil, stF_some, stC_fn, evC_draw, wantD, isCallV, argsD, evOp1.rowLen, prep, fz, cvIds, svIds, CV.ids, SV.ids, isRow, frzH, frzAV, frzCV, frzSV, frzHC, fOp, countAl, isAl, opd, constV, putA, AV.cv, CV.sv, oint, ones, intOf, indexAddrF, loadF, storeF, convF, fieldAddrF, fieldF, indexF, sliceF, lenF, appendF, unF, binF, binI, shI, isSh, leafStart, nleaves, sumsz, SV.size, Ty.sz, Ty.isPair, Ty.isAgg, boxOf, rowOf, rowVal, getp, setp, asT, leavesOf, isLive, expl, zl, bld, elems, toT, asm, isSl, Ty.part, fpath, resVars, resVar, resAV, Ty.z, Ty.D, List.replicate, List.append_nil, List.map, List.length, List.all, List.drop, List.take, List.getElem?_cons_zero, List.getElem?_cons_succ, List.cons_append, List.nil_append, List.zip_cons_cons, List.zip_nil_left, List.size_toArray, Option.isSome, Option.map, Option.bind, Option.getD, Option.map_some, Option.map_none, if_true, if_false, true_and, and_true, Bool.false_eq_true, Bool.and_true, Bool.true_and, false_implies, true_implies, reduceCtorEq, Nat.reduceSub, Nat.reduceAdd, Nat.reduceMul, Nat.reduceLT, Nat.reduceLeDiff, Nat.reduceEqDiff, Nat.add_zero, Nat.zero_add, ↓reduceIte, ↓reduceDIte, cast_eq, and_self, and_false, false_and, decide_true, decide_false, not_false_eq_true, not_true_eq_false, ne_eq, drawT_eq, drawX_eq, spcOf, vL_nil, vL_none, vL_guard, gD_some, gX_tup, gX_bool, vW_true, vW_false, vA_false, vA_call, vF_some, vC_fn, uD_true, uD_false, uG_val, uG_lend, uC_true, uC_false, uS_some, uV_some, uK_eq, uL_eq, uG_fresh, uF_eq, uX_some, uY_eq, pos, isFreshAt, uR_some, tabM_eq, tD_true, tD_false, tG_val, tG_lend, tC_true, tC_false, tS_some, tV_some, tK_eq, tL_eq, tR_some, typed, cvs, vcon, finV_some, finS_some, finX_some, snapArgs, snapCV, snapSV, snaps, leafC, snapArgsS, snapCVS, snapS, snapsS, CV.cl, SV.cl, AV.cl, AV.flat, CV.flat, SV.flat, HC.flat, Ty.flat, renAV, renCV, renSV, renHC, up, sig, idx, backHp, setAll, lendHp, reach, reachBox, addId, cvsAt, svsAt, CV.at, SV.at, List.foldl, List.flatMap_cons, List.flatMap_nil, List.contains, List.elem, Nat.reduceBEq, noDup, isLiveAt, Wof, Bool.or_true, Bool.true_or, Bool.or_false, Bool.false_or, Bool.not_true, Bool.not_false, Bool.and_false, Bool.false_and, beq_self_eq_true, List.isEmpty, BEq.rfl, or_true, true_or, or_false, false_or, List.getD_nil, Nat.sub_self, forall_const, mkS_set, mkS_getD, mkS_get, mkS_len, mkS_frz0, mkS_frz1, lookA, argL, keepS, List.getD_cons_zero, List.getD_cons_succ, List.set, xfrz, frzL, bne_self_eq_false, xg3, i3, xg4, i4, xg29, i29, xg61, i61, xg63, i63, xg69, i69, xg142, i142, xe142, xe61, xe63, con84, c84, con178, c178]
  have hf := @core_facts p regs pc halted
  repeat' (first | refine ite_b (fun _ => ?_) (fun _ => ?_) | refine and_hold (by kernel_rfl) ?_ | refine and_of ?_ (fun _ => ?_) | intro _)
  all_goals first
    | (have hf := hf (by assumption); omega)
    | (clear hf; simp_all [done, insZ]; done)
    | (have hf := hf (by assumption); rw [wrap_i64 (by omega) (by omega)]; clear hf; simp_all [done, insZ]; done)
    | trace_state
end Go.Proofs.Ytgkjgpiggjjmpaa.Ev
