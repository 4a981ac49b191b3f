/- Lemmas for the claim: walks of functions that the law calls (no condition.) -/
import Derived.Test.YtgkjgpiggjjmpaaAt3
namespace Go.Proofs.Ytgkjgpiggjjmpaa.Ev
open Go
set_option linter.unusedVariables false
set_option linter.unusedSimpArgs false
set_option maxRecDepth 100000
set_option maxHeartbeats 4000000

theorem t86 : c86.Ok Try.prog 86 := by
  have H : Deps Try.prog con [] := Deps.nil
  rintro ⟨(xs : List Int), ⟨⟩⟩ hp
  simp only [c86]
  refine acall_of_evG (X := X) (M := tabM Try.prog con []) (D := drawT X con [] []) (tabM_ok H) (drawT_ok mixed H []) Try.func86 (by decide) rfl Try.ntmps86 Try.results86 (Nat.le_of_ble_eq_true rfl) ?_
  unfold evG
  simp (maxSteps := 100000000) only [evC_seq, evC_region, evC_skip, evC_exit, evC_ret, evC_block, evC_condT, evC_condC, cvsBnd, CV.bnd, svsBnd, SV.bnd, Ty.bnd, implies_true, know, lenKnow, evOps_nil, evOps_none, evOps_some, stD_some, stV_bool, stV_tup, evOp_eq, isFun, evOp1_stI, stI_true, stI_false, stN_call, stN_nil, stF_some, stC_fn, evC_draw, wantD, isCallV, argsD, evOp1.rowLen, prep, fz, cvIds, svIds, CV.ids, SV.ids, isRow, frzH, frzAV, frzCV, frzSV, frzHC, fOp, countAl, isAl, opd, constV, putA, AV.cv, CV.sv, oint, ones, intOf, indexAddrF, loadF, storeF, convF, fieldAddrF, fieldF, indexF, sliceF, lenF, appendF, unF, binF, binI, shI, isSh, leafStart, nleaves, sumsz, SV.size, Ty.sz, Ty.isPair, Ty.isAgg, boxOf, rowOf, rowVal, getp, setp, asT, leavesOf, isLive, expl, zl, bld, elems, toT, asm, isSl, Ty.part, fpath, resVars, resVar, resAV, Ty.z, Ty.D, List.replicate, List.append_nil, List.map, List.length, List.all, List.drop, List.take, List.getElem?_cons_zero, List.getElem?_cons_succ, List.cons_append, List.nil_append, List.zip_cons_cons, List.zip_nil_left, List.size_toArray, Option.isSome, Option.map, Option.bind, Option.getD, Option.map_some, Option.map_none, if_true, if_false, true_and, and_true, Bool.false_eq_true, Bool.and_true, Bool.true_and, false_implies, true_implies, reduceCtorEq, Nat.reduceSub, Nat.reduceAdd, Nat.reduceMul, Nat.reduceLT, Nat.reduceLeDiff, Nat.reduceEqDiff, Nat.add_zero, Nat.zero_add, ↓reduceIte, ↓reduceDIte, cast_eq, and_self, and_false, false_and, decide_true, decide_false, not_false_eq_true, not_true_eq_false, ne_eq, drawT_eq, drawX_eq, spcOf, vL_nil, vL_none, vL_guard, gD_some, gX_tup, gX_bool, vW_true, vW_false, vA_false, vA_call, vF_some, vC_fn, uD_true, uD_false, uG_val, uG_lend, uC_true, uC_false, uS_some, uV_some, uK_eq, uL_eq, uG_fresh, uF_eq, uX_some, uY_eq, pos, isFreshAt, uR_some, tabM_eq, tD_true, tD_false, tG_val, tG_lend, tC_true, tC_false, tS_some, tV_some, tK_eq, tL_eq, tR_some, typed, cvs, vcon, finV_some, finS_some, finX_some, snapArgs, snapCV, snapSV, snaps, leafC, snapArgsS, snapCVS, snapS, snapsS, CV.cl, SV.cl, AV.cl, AV.flat, CV.flat, SV.flat, HC.flat, Ty.flat, renAV, renCV, renSV, renHC, up, sig, idx, backHp, setAll, lendHp, reach, reachBox, addId, cvsAt, svsAt, CV.at, SV.at, List.foldl, List.flatMap_cons, List.flatMap_nil, List.contains, List.elem, Nat.reduceBEq, noDup, isLiveAt, Wof, Bool.or_true, Bool.true_or, Bool.or_false, Bool.false_or, Bool.not_true, Bool.not_false, Bool.and_false, Bool.false_and, beq_self_eq_true, List.isEmpty, BEq.rfl, or_true, true_or, or_false, false_or, List.getD_nil, Nat.sub_self, forall_const, mkS_set, mkS_getD, mkS_get, mkS_len, mkS_frz0, mkS_frz1, lookA, argL, keepS, List.getD_cons_zero, List.getD_cons_succ, List.set, xfrz, frzL, bne_self_eq_false, xg4, i4, xg29, i29, xg49, i49]
  have hp : xs.length ≤ 1000000000000 := hp
  intro hb b h0
  cases b with
  | true =>
    obtain rfl : xs = [] := List.eq_nil_of_length_eq_zero (h0 rfl)
    exact finG_own [0] rfl rfl ⟨rfl, rfl⟩
  | false =>
    exact ⟨by omega, finG_own [0] rfl rfl ⟨rfl, rfl⟩⟩

theorem t145 : c145.Ok Try.prog 145 := by
  have H : Deps Try.prog con [] := Deps.nil
  rintro ⟨(xs : List Core), ⟨⟩⟩ hp
  simp only [c145]
  refine acall_of_evG (X := X) (M := tabM Try.prog con []) (D := drawT X con [] []) (tabM_ok H) (drawT_ok mixed H []) Try.func145 (by decide) rfl Try.ntmps145 Try.results145 (Nat.le_of_ble_eq_true rfl) ?_
  unfold evG
  simp (maxSteps := 100000000) only [evC_seq, evC_region, evC_skip, evC_exit, evC_ret, evC_block, evC_condT, evC_condC, cvsBnd, CV.bnd, svsBnd, SV.bnd, Ty.bnd, implies_true, know, lenKnow, evOps_nil, evOps_none, evOps_some, stD_some, stV_bool, stV_tup, evOp_eq, isFun, evOp1_stI, stI_true, stI_false, stN_call, stN_nil, stF_some, stC_fn, evC_draw, wantD, isCallV, argsD, evOp1.rowLen, prep, fz, cvIds, svIds, CV.ids, SV.ids, isRow, frzH, frzAV, frzCV, frzSV, frzHC, fOp, countAl, isAl, opd, constV, putA, AV.cv, CV.sv, oint, ones, intOf, indexAddrF, loadF, storeF, convF, fieldAddrF, fieldF, indexF, sliceF, lenF, appendF, unF, binF, binI, shI, isSh, leafStart, nleaves, sumsz, SV.size, Ty.sz, Ty.isPair, Ty.isAgg, boxOf, rowOf, rowVal, getp, setp, asT, leavesOf, isLive, expl, zl, bld, elems, toT, asm, isSl, Ty.part, fpath, resVars, resVar, resAV, Ty.z, Ty.D, List.replicate, List.append_nil, List.map, List.length, List.all, List.drop, List.take, List.getElem?_cons_zero, List.getElem?_cons_succ, List.cons_append, List.nil_append, List.zip_cons_cons, List.zip_nil_left, List.size_toArray, Option.isSome, Option.map, Option.bind, Option.getD, Option.map_some, Option.map_none, if_true, if_false, true_and, and_true, Bool.false_eq_true, Bool.and_true, Bool.true_and, false_implies, true_implies, reduceCtorEq, Nat.reduceSub, Nat.reduceAdd, Nat.reduceMul, Nat.reduceLT, Nat.reduceLeDiff, Nat.reduceEqDiff, Nat.add_zero, Nat.zero_add, ↓reduceIte, ↓reduceDIte, cast_eq, and_self, and_false, false_and, decide_true, decide_false, not_false_eq_true, not_true_eq_false, ne_eq, drawT_eq, drawX_eq, spcOf, vL_nil, vL_none, vL_guard, gD_some, gX_tup, gX_bool, vW_true, vW_false, vA_false, vA_call, vF_some, vC_fn, uD_true, uD_false, uG_val, uG_lend, uC_true, uC_false, uS_some, uV_some, uK_eq, uL_eq, uG_fresh, uF_eq, uX_some, uY_eq, pos, isFreshAt, uR_some, tabM_eq, tD_true, tD_false, tG_val, tG_lend, tC_true, tC_false, tS_some, tV_some, tK_eq, tL_eq, tR_some, typed, cvs, vcon, finV_some, finS_some, finX_some, snapArgs, snapCV, snapSV, snaps, leafC, snapArgsS, snapCVS, snapS, snapsS, CV.cl, SV.cl, AV.cl, AV.flat, CV.flat, SV.flat, HC.flat, Ty.flat, renAV, renCV, renSV, renHC, up, sig, idx, backHp, setAll, lendHp, reach, reachBox, addId, cvsAt, svsAt, CV.at, SV.at, List.foldl, List.flatMap_cons, List.flatMap_nil, List.contains, List.elem, Nat.reduceBEq, noDup, isLiveAt, Wof, Bool.or_true, Bool.true_or, Bool.or_false, Bool.false_or, Bool.not_true, Bool.not_false, Bool.and_false, Bool.false_and, beq_self_eq_true, List.isEmpty, BEq.rfl, or_true, true_or, or_false, false_or, List.getD_nil, Nat.sub_self, forall_const, mkS_set, mkS_getD, mkS_get, mkS_len, mkS_frz0, mkS_frz1, lookA, argL, keepS, List.getD_cons_zero, List.getD_cons_succ, List.set, xfrz, frzL, bne_self_eq_false, xg3, i3, xg4, i4, xg29, i29, xg50, i50, xg61, i61, xg63, i63, xe61, xe63]
  have hp : xs.length ≤ 1000000000000 := hp
  intro hb b h0
  cases b with
  | true =>
    obtain rfl : xs = [] := List.eq_nil_of_length_eq_zero (h0 rfl)
    exact finG_own [0] rfl rfl ⟨rfl, rfl⟩
  | false =>
    exact ⟨by omega, finG_own [0] rfl rfl ⟨rfl, rfl⟩⟩

theorem t146 : c146.Ok Try.prog 146 := by
  have H : Deps Try.prog con [] := Deps.nil
  rintro ⟨(xs : List Told), ⟨⟩⟩ hp
  simp only [c146]
  refine acall_of_evG (X := X) (M := tabM Try.prog con []) (D := drawT X con [] []) (tabM_ok H) (drawT_ok mixed H []) Try.func146 (by decide) rfl Try.ntmps146 Try.results146 (Nat.le_of_ble_eq_true rfl) ?_
  unfold evG
  simp (maxSteps := 100000000) only [evC_seq, evC_region, evC_skip, evC_exit, evC_ret, evC_block, evC_condT, evC_condC, cvsBnd, CV.bnd, svsBnd, SV.bnd, Ty.bnd, implies_true, know, lenKnow, evOps_nil, evOps_none, evOps_some, stD_some, stV_bool, stV_tup, evOp_eq, isFun, evOp1_stI, stI_true, stI_false, stN_call, stN_nil, stF_some, stC_fn, evC_draw, wantD, isCallV, argsD, evOp1.rowLen, prep, fz, cvIds, svIds, CV.ids, SV.ids, isRow, frzH, frzAV, frzCV, frzSV, frzHC, fOp, countAl, isAl, opd, constV, putA, AV.cv, CV.sv, oint, ones, intOf, indexAddrF, loadF, storeF, convF, fieldAddrF, fieldF, indexF, sliceF, lenF, appendF, unF, binF, binI, shI, isSh, leafStart, nleaves, sumsz, SV.size, Ty.sz, Ty.isPair, Ty.isAgg, boxOf, rowOf, rowVal, getp, setp, asT, leavesOf, isLive, expl, zl, bld, elems, toT, asm, isSl, Ty.part, fpath, resVars, resVar, resAV, Ty.z, Ty.D, List.replicate, List.append_nil, List.map, List.length, List.all, List.drop, List.take, List.getElem?_cons_zero, List.getElem?_cons_succ, List.cons_append, List.nil_append, List.zip_cons_cons, List.zip_nil_left, List.size_toArray, Option.isSome, Option.map, Option.bind, Option.getD, Option.map_some, Option.map_none, if_true, if_false, true_and, and_true, Bool.false_eq_true, Bool.and_true, Bool.true_and, false_implies, true_implies, reduceCtorEq, Nat.reduceSub, Nat.reduceAdd, Nat.reduceMul, Nat.reduceLT, Nat.reduceLeDiff, Nat.reduceEqDiff, Nat.add_zero, Nat.zero_add, ↓reduceIte, ↓reduceDIte, cast_eq, and_self, and_false, false_and, decide_true, decide_false, not_false_eq_true, not_true_eq_false, ne_eq, drawT_eq, drawX_eq, spcOf, vL_nil, vL_none, vL_guard, gD_some, gX_tup, gX_bool, vW_true, vW_false, vA_false, vA_call, vF_some, vC_fn, uD_true, uD_false, uG_val, uG_lend, uC_true, uC_false, uS_some, uV_some, uK_eq, uL_eq, uG_fresh, uF_eq, uX_some, uY_eq, pos, isFreshAt, uR_some, tabM_eq, tD_true, tD_false, tG_val, tG_lend, tC_true, tC_false, tS_some, tV_some, tK_eq, tL_eq, tR_some, typed, cvs, vcon, finV_some, finS_some, finX_some, snapArgs, snapCV, snapSV, snaps, leafC, snapArgsS, snapCVS, snapS, snapsS, CV.cl, SV.cl, AV.cl, AV.flat, CV.flat, SV.flat, HC.flat, Ty.flat, renAV, renCV, renSV, renHC, up, sig, idx, backHp, setAll, lendHp, reach, reachBox, addId, cvsAt, svsAt, CV.at, SV.at, List.foldl, List.flatMap_cons, List.flatMap_nil, List.contains, List.elem, Nat.reduceBEq, noDup, isLiveAt, Wof, Bool.or_true, Bool.true_or, Bool.or_false, Bool.false_or, Bool.not_true, Bool.not_false, Bool.and_false, Bool.false_and, beq_self_eq_true, List.isEmpty, BEq.rfl, or_true, true_or, or_false, false_or, List.getD_nil, Nat.sub_self, forall_const, mkS_set, mkS_getD, mkS_get, mkS_len, mkS_frz0, mkS_frz1, lookA, argL, keepS, List.getD_cons_zero, List.getD_cons_succ, List.set, xfrz, frzL, bne_self_eq_false, xg3, i3, xg4, i4, xg29, i29, xg51, i51, xg144, i144, xe144]
  have hp : xs.length ≤ 1000000000000 := hp
  intro hb b h0
  cases b with
  | true =>
    obtain rfl : xs = [] := List.eq_nil_of_length_eq_zero (h0 rfl)
    exact finG_own [0] rfl rfl ⟨rfl, rfl⟩
  | false =>
    exact ⟨by omega, finG_own [0] rfl rfl ⟨rfl, rfl⟩⟩

theorem t79 : c79.Ok Try.prog 79 := by
  have H : Deps Try.prog con [86, 145, 146] := Deps.cons (c := .val c86) con86 t86 (Deps.cons (c := .val c145) con145 t145 (Deps.cons (c := .val c146) con146 t146 (Deps.nil)))
  rintro ⟨⟨(mem : List Int), (cores : List Core), (outs : List Told), ⟨⟩⟩, ⟨⟩⟩ hp
  simp only [c79]
  refine acall_of_evG (X := X) (M := tabM Try.prog con [86, 145, 146]) (D := drawT X con [86, 145, 146] [⟨11, [(2, [2]), (5, [3]), (8, [4])], [], 3⟩]) (tabM_ok H) (drawT_ok mixed H [⟨11, [(2, [2]), (5, [3]), (8, [4])], [], 3⟩]) Try.func79 (by decide) rfl Try.ntmps79 Try.results79 (Nat.le_of_ble_eq_true rfl) ?_
  unfold evG
  simp (maxSteps := 100000000) only [evC_seq, evC_region, evC_skip, evC_exit, evC_ret, evC_block, evC_condT, evC_condC, cvsBnd, CV.bnd, svsBnd, SV.bnd, Ty.bnd, implies_true, know, lenKnow, evOps_nil, evOps_none, evOps_some, stD_some, stV_bool, stV_tup, evOp_eq, isFun, evOp1_stI, stI_true, stI_false, stN_call, stN_nil, stF_some, stC_fn, evC_draw, wantD, isCallV, argsD, evOp1.rowLen, prep, fz, cvIds, svIds, CV.ids, SV.ids, isRow, frzH, frzAV, frzCV, frzSV, frzHC, fOp, countAl, isAl, opd, constV, putA, AV.cv, CV.sv, oint, ones, intOf, indexAddrF, loadF, storeF, convF, fieldAddrF, fieldF, indexF, sliceF, lenF, appendF, unF, binF, binI, shI, isSh, leafStart, nleaves, sumsz, SV.size, Ty.sz, Ty.isPair, Ty.isAgg, boxOf, rowOf, rowVal, getp, setp, asT, leavesOf, isLive, expl, zl, bld, elems, toT, asm, isSl, Ty.part, fpath, resVars, resVar, resAV, Ty.z, Ty.D, List.replicate, List.append_nil, List.map, List.length, List.all, List.drop, List.take, List.getElem?_cons_zero, List.getElem?_cons_succ, List.cons_append, List.nil_append, List.zip_cons_cons, List.zip_nil_left, List.size_toArray, Option.isSome, Option.map, Option.bind, Option.getD, Option.map_some, Option.map_none, if_true, if_false, true_and, and_true, Bool.false_eq_true, Bool.and_true, Bool.true_and, false_implies, true_implies, reduceCtorEq, Nat.reduceSub, Nat.reduceAdd, Nat.reduceMul, Nat.reduceLT, Nat.reduceLeDiff, Nat.reduceEqDiff, Nat.add_zero, Nat.zero_add, ↓reduceIte, ↓reduceDIte, cast_eq, and_self, and_false, false_and, decide_true, decide_false, not_false_eq_true, not_true_eq_false, ne_eq, drawT_eq, drawX_eq, spcOf, vL_nil, vL_none, vL_guard, gD_some, gX_tup, gX_bool, vW_true, vW_false, vA_false, vA_call, vF_some, vC_fn, uD_true, uD_false, uG_val, uG_lend, uC_true, uC_false, uS_some, uV_some, uK_eq, uL_eq, uG_fresh, uF_eq, uX_some, uY_eq, pos, isFreshAt, uR_some, tabM_eq, tD_true, tD_false, tG_val, tG_lend, tC_true, tC_false, tS_some, tV_some, tK_eq, tL_eq, tR_some, typed, cvs, vcon, finV_some, finS_some, finX_some, snapArgs, snapCV, snapSV, snaps, leafC, snapArgsS, snapCVS, snapS, snapsS, CV.cl, SV.cl, AV.cl, AV.flat, CV.flat, SV.flat, HC.flat, Ty.flat, renAV, renCV, renSV, renHC, up, sig, idx, backHp, setAll, lendHp, reach, reachBox, addId, cvsAt, svsAt, CV.at, SV.at, List.foldl, List.flatMap_cons, List.flatMap_nil, List.contains, List.elem, Nat.reduceBEq, noDup, isLiveAt, Wof, Bool.or_true, Bool.true_or, Bool.or_false, Bool.false_or, Bool.not_true, Bool.not_false, Bool.and_false, Bool.false_and, beq_self_eq_true, List.isEmpty, BEq.rfl, or_true, true_or, or_false, false_or, List.getD_nil, Nat.sub_self, forall_const, mkS_set, mkS_getD, mkS_get, mkS_len, mkS_frz0, mkS_frz1, lookA, argL, keepS, List.getD_cons_zero, List.getD_cons_succ, List.set, xfrz, frzL, bne_self_eq_false, xg3, i3, xg4, i4, xg29, i29, xg49, i49, xg50, i50, xg51, i51, xg53, i53, xg61, i61, xg63, i63, xg144, i144, xe144, xe61, xe63, con86, c86, con145, c145, con146, c146]
  repeat' (first | refine ite_b (fun _ => ?_) (fun _ => ?_) | refine and_hold (by kernel_rfl) ?_ | refine and_of ?_ (fun _ => ?_) | intro _)
  · exact hp.1
  · exact hp.2.1
  · exact hp.2.2
  · exact finG_own [2, 3, 4] rfl rfl ⟨rfl, rfl⟩
theorem isaAll_len {l : List (List Ins)} (h : (!isaAll l) = false) : (l.length : Int) ≤ 4 := by
  simp only [Bool.not_eq_false', isaAll, Bool.and_eq_true, decide_eq_true_eq] at h
  exact h.1.2
theorem t21 : c21.Ok Try.prog 21 := by
  have H : Deps Try.prog con [78] := Deps.cons (c := .val c78) con78 t78 (Deps.nil)
  rintro ⟨(l : List (List Ins)), (words : Int), ⟨⟩⟩ -
  simp only [c21]
  refine acall_of_evG (X := X) (M := tabM Try.prog con [78]) (D := drawT X con [78] []) (tabM_ok H) (drawT_ok mixed H []) Try.func21 (by decide) rfl Try.ntmps21 Try.results21 (Nat.le_of_ble_eq_true rfl) ?_
  unfold evG
  simp (maxSteps := 100000000) only [evC_seq, evC_region, evC_skip, evC_exit, evC_ret, evC_block, evC_condT, evC_condC, cvsBnd, CV.bnd, svsBnd, SV.bnd, Ty.bnd, implies_true, know, lenKnow, evOps_nil, evOps_none, evOps_some, stD_some, stV_bool, stV_tup, evOp_eq, isFun, evOp1_stI, stI_true, stI_false, stN_call, stN_nil, stF_some, stC_fn, evC_draw, wantD, isCallV, argsD, evOp1.rowLen, prep, fz, cvIds, svIds, CV.ids, SV.ids, isRow, frzH, frzAV, frzCV, frzSV, frzHC, fOp, countAl, isAl, opd, constV, putA, AV.cv, CV.sv, oint, ones, intOf, indexAddrF, loadF, storeF, convF, fieldAddrF, fieldF, indexF, sliceF, lenF, appendF, unF, binF, binI, shI, isSh, leafStart, nleaves, sumsz, SV.size, Ty.sz, Ty.isPair, Ty.isAgg, boxOf, rowOf, rowVal, getp, setp, asT, leavesOf, isLive, expl, zl, bld, elems, toT, asm, isSl, Ty.part, fpath, resVars, resVar, resAV, Ty.z, Ty.D, List.replicate, List.append_nil, List.map, List.length, List.all, List.drop, List.take, List.getElem?_cons_zero, List.getElem?_cons_succ, List.cons_append, List.nil_append, List.zip_cons_cons, List.zip_nil_left, List.size_toArray, Option.isSome, Option.map, Option.bind, Option.getD, Option.map_some, Option.map_none, if_true, if_false, true_and, and_true, Bool.false_eq_true, Bool.and_true, Bool.true_and, false_implies, true_implies, reduceCtorEq, Nat.reduceSub, Nat.reduceAdd, Nat.reduceMul, Nat.reduceLT, Nat.reduceLeDiff, Nat.reduceEqDiff, Nat.add_zero, Nat.zero_add, ↓reduceIte, ↓reduceDIte, cast_eq, and_self, and_false, false_and, decide_true, decide_false, not_false_eq_true, not_true_eq_false, ne_eq, drawT_eq, drawX_eq, spcOf, vL_nil, vL_none, vL_guard, gD_some, gX_tup, gX_bool, vW_true, vW_false, vA_false, vA_call, vF_some, vC_fn, uD_true, uD_false, uG_val, uG_lend, uC_true, uC_false, uS_some, uV_some, uK_eq, uL_eq, uG_fresh, uF_eq, uX_some, uY_eq, pos, isFreshAt, uR_some, tabM_eq, tD_true, tD_false, tG_val, tG_lend, tC_true, tC_false, tS_some, tV_some, tK_eq, tL_eq, tR_some, typed, cvs, vcon, finV_some, finS_some, finX_some, snapArgs, snapCV, snapSV, snaps, leafC, snapArgsS, snapCVS, snapS, snapsS, CV.cl, SV.cl, AV.cl, AV.flat, CV.flat, SV.flat, HC.flat, Ty.flat, renAV, renCV, renSV, renHC, up, sig, idx, backHp, setAll, lendHp, reach, reachBox, addId, cvsAt, svsAt, CV.at, SV.at, List.foldl, List.flatMap_cons, List.flatMap_nil, List.contains, List.elem, Nat.reduceBEq, noDup, isLiveAt, Wof, Bool.or_true, Bool.true_or, Bool.or_false, Bool.false_or, Bool.not_true, Bool.not_false, Bool.and_false, Bool.false_and, beq_self_eq_true, List.isEmpty, BEq.rfl, or_true, true_or, or_false, false_or, List.getD_nil, Nat.sub_self, forall_const, mkS_set, mkS_getD, mkS_get, mkS_len, mkS_frz0, mkS_frz1, lookA, argL, keepS, List.getD_cons_zero, List.getD_cons_succ, List.set, xfrz, frzL, bne_self_eq_false, xg3, i3, xg4, i4, xg29, i29, xg34, i34, xg46, i46, xg49, i49, xg50, i50, xg51, i51, xg53, i53, xg61, i61, xg63, i63, xg69, i69, xg142, i142, xg144, i144, xe142, xe144, xe61, xe63, con78, c78]
  have hl := @isaAll_len l
  repeat' (first | refine ite_b (fun _ => ?_) (fun _ => ?_) | refine and_hold (by kernel_rfl) ?_ | refine and_of ?_ (fun _ => ?_) | intro _)
  all_goals first
    | (have e : newA l words = (([], [], [], ()), 1) := by simp_all [newA]
       rw [e]
       exact finG_own [1, 2, 3] rfl rfl ⟨rfl, rfl⟩)
    | (have hl := hl (by assumption); simp only [decide_eq_false_iff_not] at *; omega)
    | skip
  have e : newA l words = ((List.replicate words.toNat 0, List.replicate l.length coreZ, [], ()), 0) := by simp_all [newA]
  rw [e]
  refine finG_own [1, 2, 3] rfl (by simp only [trim_mkS, keepS, lookA, trimHp, rho, idx, renAV, renCV, renSV, renHC, List.contains, List.elem, List.map, List.take, List.length, List.getD_cons_zero, List.getD_cons_succ, List.append_nil, List.nil_append, List.cons_append, Nat.reduceAdd, Nat.reduceBEq, Nat.reduceLT, Bool.false_eq_true, if_true, if_false, ↓reduceIte, List.replicate, Option.map, Nat.reduceEqDiff, Nat.reduceLeDiff, reduceCtorEq, Nat.reduceSub, Nat.add_zero, Nat.zero_add, rst, rstL, rstHC, rstAV, rstCV, rstSV, rstV, verOf, Nat.ble, nlCVs, nlCV, nlSVs, resAV, List.getElem?_cons_zero, List.getElem?_cons_succ, mkS_map, fz, isRow, frzH, mkS_frz0, mkS_frz1, frzAV, frzCV, frzSV, frzHC, List.set, rowOf, List.drop, cast_eq, ↓reduceDIte, xfrz, frzL, nlM, canonS, List.map_cons, List.map_nil, SV.size]; rfl) ⟨?_, ?_⟩
  · simp only [List.length_replicate]; rfl
  · rfl
theorem act_ok (ver : Nat) (mem : List Int) (kind at' val old : Int) : ACall Try.prog 87 [.one (.ref 0 ver tU 0 mem.length), .one (.c tWant (kind, at', val, old, ()))] [.live (.row tU mem ver)] (fun r h => r = .v (.one (.c tU (actWas mem (kind, at', val, old, ())))) ∧ h = [.live (.row tU (actMem mem (kind, at', val, old, ())) ver)]) := by
  have H : Deps Try.prog con [] := Deps.nil
  refine acall_of_evG (X := X) (M := tabM Try.prog con []) (D := drawT X con [] []) (tabM_ok H) (drawT_ok mixed H []) Try.func87 (by decide) rfl Try.ntmps87 Try.results87 (Nat.le_of_ble_eq_true rfl) ?_
  unfold evG
  simp (maxSteps := 100000000) only [evC_seq, evC_region, evC_skip, evC_exit, evC_ret, evC_block, evC_condT, evC_condC, cvsBnd, CV.bnd, svsBnd, SV.bnd, Ty.bnd, implies_true, know, lenKnow, evOps_nil, evOps_none, evOps_some, stD_some, stV_bool, stV_tup, evOp_eq, isFun, evOp1_stI, stI_true, stI_false, stN_call, stN_nil, stF_some, stC_fn, evC_draw, wantD, isCallV, argsD, evOp1.rowLen, prep, fz, cvIds, svIds, CV.ids, SV.ids, isRow, frzH, frzAV, frzCV, frzSV, frzHC, fOp, countAl, isAl, opd, constV, putA, AV.cv, CV.sv, oint, ones, intOf, indexAddrF, loadF, storeF, convF, fieldAddrF, fieldF, indexF, sliceF, lenF, appendF, unF, binF, binI, shI, isSh, leafStart, nleaves, sumsz, SV.size, Ty.sz, Ty.isPair, Ty.isAgg, boxOf, rowOf, rowVal, getp, setp, asT, leavesOf, isLive, expl, zl, bld, elems, toT, asm, isSl, Ty.part, fpath, resVars, resVar, resAV, Ty.z, Ty.D, List.replicate, List.append_nil, List.map, List.length, List.all, List.drop, List.take, List.getElem?_cons_zero, List.getElem?_cons_succ, List.cons_append, List.nil_append, List.zip_cons_cons, List.zip_nil_left, List.size_toArray, Option.isSome, Option.map, Option.bind, Option.getD, Option.map_some, Option.map_none, if_true, if_false, true_and, and_true, Bool.false_eq_true, Bool.and_true, Bool.true_and, false_implies, true_implies, reduceCtorEq, Nat.reduceSub, Nat.reduceAdd, Nat.reduceMul, Nat.reduceLT, Nat.reduceLeDiff, Nat.reduceEqDiff, Nat.add_zero, Nat.zero_add, ↓reduceIte, ↓reduceDIte, cast_eq, and_self, and_false, false_and, decide_true, decide_false, not_false_eq_true, not_true_eq_false, ne_eq, drawT_eq, drawX_eq, spcOf, vL_nil, vL_none, vL_guard, gD_some, gX_tup, gX_bool, vW_true, vW_false, vA_false, vA_call, vF_some, vC_fn, uD_true, uD_false, uG_val, uG_lend, uC_true, uC_false, uS_some, uV_some, uK_eq, uL_eq, uG_fresh, uF_eq, uX_some, uY_eq, pos, isFreshAt, uR_some, tabM_eq, tD_true, tD_false, tG_val, tG_lend, tC_true, tC_false, tS_some, tV_some, tK_eq, tL_eq, tR_some, typed, cvs, vcon, finV_some, finS_some, finX_some, snapArgs, snapCV, snapSV, snaps, leafC, snapArgsS, snapCVS, snapS, snapsS, CV.cl, SV.cl, AV.cl, AV.flat, CV.flat, SV.flat, HC.flat, Ty.flat, renAV, renCV, renSV, renHC, up, sig, idx, backHp, setAll, lendHp, reach, reachBox, addId, cvsAt, svsAt, CV.at, SV.at, List.foldl, List.flatMap_cons, List.flatMap_nil, List.contains, List.elem, Nat.reduceBEq, noDup, isLiveAt, Wof, Bool.or_true, Bool.true_or, Bool.or_false, Bool.false_or, Bool.not_true, Bool.not_false, Bool.and_false, Bool.false_and, beq_self_eq_true, List.isEmpty, BEq.rfl, or_true, true_or, or_false, false_or, List.getD_nil, Nat.sub_self, forall_const, mkS_set, mkS_getD, mkS_get, mkS_len, mkS_frz0, mkS_frz1, lookA, argL, keepS, List.getD_cons_zero, List.getD_cons_succ, List.set, xfrz, frzL, bne_self_eq_false, xg3, i3, xg4, i4, xg29, i29, xg49, i49, xg67, i67, xe67]
  repeat' (first | refine ite_b (fun _ => ?_) (fun _ => ?_) | refine and_hold (by kernel_rfl) ?_ | refine and_of ?_ (fun _ => ?_) | intro _)
  all_goals simp only [decide_eq_true_eq, decide_eq_false_iff_not, beq_iff_eq, beq_eq_false_iff_ne] at *
  all_goals first
    | omega
    | (have e1 : actWas mem (kind, at', val, old, ()) = 0 := by simp [actWas]; omega
       have e2 : actMem mem (kind, at', val, old, ()) = mem := by simp [actMem]; omega
       rw [e1, e2]
       exact finG_trim [] rfl rfl ⟨rfl, rfl⟩)
    | (have e1 : actWas mem (kind, at', val, old, ()) = mem.getD at'.toNat 0 := by simp [actWas]; omega
       have e2 : actMem mem (kind, at', val, old, ()) = mem.set at'.toNat val := by
         rw [actMem, if_neg (by simp; omega), if_pos (by simp_all)]
       rw [e1, e2]
       exact finG_trim [] rfl rfl ⟨rfl, rfl⟩)
    | (have e1 : actWas mem (kind, at', val, old, ()) = mem.getD at'.toNat 0 := by simp [actWas]; omega
       have e2 : actMem mem (kind, at', val, old, ()) = mem := by
         rw [actMem, if_neg (by simp; omega), if_neg (by simp_all)]
       rw [e1, e2]
       exact finG_trim [] rfl rfl ⟨rfl, rfl⟩)
    | trace_state
theorem t87 : c87.Ok Try.prog 87 := by
  intro args hp p v h' hrun hpre
  simp only [c87] at hrun
  unfold actRun at hrun
  split at hrun
  · rename_i id ver off len w xs ver'
    split at hrun
    · rename_i w' hw
      simp only [Option.some.injEq, Prod.mk.injEq] at hrun
      obtain ⟨rfl, rfl, rfl⟩ := hrun
      obtain ⟨rfl, rfl, rfl, rfl⟩ := hpre
      obtain ⟨kind, at', val, old, ⟨⟩⟩ := w'
      exact ACall.normL [_] [] hw (act_ok ver xs kind at' val old)
    · cases hrun
  · cases hrun
end Go.Proofs.Ytgkjgpiggjjmpaa.Ev
