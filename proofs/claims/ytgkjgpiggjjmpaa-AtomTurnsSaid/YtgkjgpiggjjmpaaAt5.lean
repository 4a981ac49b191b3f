/- Lemmas for the claim: walks of functions that the law calls (no condition.) -/
import Derived.Test.YtgkjgpiggjjmpaaAt4
namespace Go.Proofs.Ytgkjgpiggjjmpaa.Ev
open Go
set_option linter.unusedVariables false
set_option linter.unusedSimpArgs false
set_option maxRecDepth 100000
set_option maxHeartbeats 4000000

theorem actMem_len (mem : List Int) (w : Want) : (actMem mem w).length = mem.length := by
  unfold actMem; split
  · rfl
  · split <;> simp
theorem stepMem_len (p : List (List Ins)) (mem : List Int) (cores : List Core) (n : Int) : (stepMem p mem cores n).length = mem.length := actMem_len _ _
theorem stepCores_len (p : List (List Ins)) (mem : List Int) (cores : List Core) (n : Int) : (stepCores p mem cores n).length = cores.length := by simp [stepCores]
theorem step_ok (p : List (List Ins)) (n : Int) (mem : List Int) (cores : List Core) (outs : List Told) (v1 v2 v3 : Nat) (h0 : 0 ≤ n) (hn : n < p.length) (hc : n < cores.length) (hm : mem.length ≤ 1000000) (ho : outs.length ≤ 1000000) : ACall Try.prog 80 [.one (.c (.sl (.sl tIns)) p), .one (.bp 0 0), .one (.c tI n)] [.live (.box [.ref 1 v1 tU 0 mem.length, .ref 2 v2 tCore 0 cores.length, .ref 3 v3 tTold 0 outs.length]), .live (.row tU mem v1), .live (.row tCore cores v2), .live (.row tTold outs v3)] (fun r h => r = .tup [] ∧ h = [.live (.box [.ref 1 v1 tU 0 (stepMem p mem cores n).length, .ref 2 v2 tCore 0 (stepCores p mem cores n).length, .ref 3 (stepVer p mem cores v3 n) tTold 0 (stepOuts p mem cores outs n).length]), .live (.row tU (stepMem p mem cores n) v1), .live (.row tCore (stepCores p mem cores n) v2), .live (.row tTold (stepOuts p mem cores outs n) (stepVer p mem cores v3 n))]) := by
  have H : Deps Try.prog con [27, 147, 87] := Deps.cons (c := .val c27) con27 t27 (Deps.cons (c := .val c147) con147 t147 (Deps.cons (c := .lend c87) con87 t87 (Deps.nil)))
  refine acall_of_evG (X := X) (M := tabM Try.prog con [27, 147, 87]) (D := drawT X con [27, 147, 87] [⟨14, [(10, [3])], [], 0⟩, ⟨25, [(21, [1])], [], 0⟩]) (tabM_ok H) (drawT_ok mixed H [⟨14, [(10, [3])], [], 0⟩, ⟨25, [(21, [1])], [], 0⟩]) Try.func80 (by decide) rfl Try.ntmps80 Try.results80 (Nat.le_of_ble_eq_true rfl) ?_
  unfold evG
  simp (maxSteps := 100000000) only [evC_seq, evC_region, evC_skip, evC_exit, evC_ret, evC_block, evC_condT, evC_condC, cvsBnd, CV.bnd, svsBnd, SV.bnd, Ty.bnd, implies_true, know, lenKnow, evOps_nil, evOps_none, evOps_some, stD_some, stV_bool, stV_tup, evOp_eq, isFun, evOp1_stI, stI_true, stI_false, stN_call, stN_nil, stF_some, stC_fn, evC_draw, wantD, isCallV, argsD, evOp1.rowLen, prep, fz, cvIds, svIds, CV.ids, SV.ids, isRow, frzH, frzAV, frzCV, frzSV, frzHC, fOp, countAl, isAl, opd, constV, putA, AV.cv, CV.sv, oint, ones, intOf, indexAddrF, loadF, storeF, convF, fieldAddrF, fieldF, indexF, sliceF, lenF, appendF, unF, binF, binI, shI, isSh, leafStart, nleaves, sumsz, SV.size, Ty.sz, Ty.isPair, Ty.isAgg, boxOf, rowOf, rowVal, getp, setp, asT, leavesOf, isLive, expl, zl, bld, elems, toT, asm, isSl, Ty.part, fpath, resVars, resVar, resAV, Ty.z, Ty.D, List.replicate, List.append_nil, List.map, List.length, List.all, List.drop, List.take, List.getElem?_cons_zero, List.getElem?_cons_succ, List.cons_append, List.nil_append, List.zip_cons_cons, List.zip_nil_left, List.size_toArray, Option.isSome, Option.map, Option.bind, Option.getD, Option.map_some, Option.map_none, if_true, if_false, true_and, and_true, Bool.false_eq_true, Bool.and_true, Bool.true_and, false_implies, true_implies, reduceCtorEq, Nat.reduceSub, Nat.reduceAdd, Nat.reduceMul, Nat.reduceLT, Nat.reduceLeDiff, Nat.reduceEqDiff, Nat.add_zero, Nat.zero_add, ↓reduceIte, ↓reduceDIte, cast_eq, and_self, and_false, false_and, decide_true, decide_false, not_false_eq_true, not_true_eq_false, ne_eq, drawT_eq, drawX_eq, spcOf, vL_nil, vL_none, vL_guard, gD_some, gX_tup, gX_bool, vW_true, vW_false, vA_false, vA_call, vF_some, vC_fn, uD_true, uD_false, uG_val, uG_lend, uC_true, uC_false, uS_some, uV_some, uK_eq, uL_eq, uG_fresh, uF_eq, uX_some, uY_eq, pos, isFreshAt, uR_some, tabM_eq, tD_true, tD_false, tG_val, tG_lend, tC_true, tC_false, tS_some, tV_some, tK_eq, tL_eq, tR_some, typed, cvs, vcon, finV_some, finS_some, finX_some, snapArgs, snapCV, snapSV, snaps, leafC, snapArgsS, snapCVS, snapS, snapsS, CV.cl, SV.cl, AV.cl, AV.flat, CV.flat, SV.flat, HC.flat, Ty.flat, renAV, renCV, renSV, renHC, up, sig, idx, backHp, setAll, lendHp, reach, reachBox, addId, cvsAt, svsAt, CV.at, SV.at, List.foldl, List.flatMap_cons, List.flatMap_nil, List.contains, List.elem, Nat.reduceBEq, noDup, isLiveAt, Wof, Bool.or_true, Bool.true_or, Bool.or_false, Bool.false_or, Bool.not_true, Bool.not_false, Bool.and_false, Bool.false_and, beq_self_eq_true, List.isEmpty, BEq.rfl, or_true, true_or, or_false, false_or, List.getD_nil, Nat.sub_self, forall_const, mkS_set, mkS_getD, mkS_get, mkS_len, mkS_frz0, mkS_frz1, lookA, argL, keepS, List.getD_cons_zero, List.getD_cons_succ, List.set, xfrz, frzL, bne_self_eq_false, xg3, i3, xg4, i4, xg29, i29, xg46, i46, xg49, i49, xg50, i50, xg51, i51, xg53, i53, xg61, i61, xg63, i63, xg67, i67, xg69, i69, xg142, i142, xg144, i144, xe67, xe142, xe144, xe61, xe63, con27, c27, con147, c147, con87, c87, actRun]
  repeat' (first | refine ite_b (fun _ => ?_) (fun _ => ?_) | refine and_hold (by kernel_rfl) ?_ | refine and_of ?_ (fun _ => ?_) | intro _)
  all_goals try omega
  · have h : ((stepWant p mem cores n).1 == 4) = true := by assumption
    have e1 : stepVer p mem cores v3 n = v3 + 1 := by unfold stepVer; rw [if_pos h]
    have e2 : stepOuts p mem cores outs n = outs ++ [(n, (stepWant p mem cores n).2.2.1, ())] := by unfold stepOuts; rw [if_pos h]
    rw [stepMem_len, stepCores_len, e1, e2]
    refine finG_trim [] rfl rfl ⟨rfl, ?_⟩
    simp only [trim_mkS, keepS, lookA, trimHp, rho, idx, renAV, renCV, renSV, renHC, List.contains, List.elem, List.map, List.take, List.length, List.getD_cons_zero, List.getD_cons_succ, List.append_nil, List.nil_append, List.cons_append, Nat.reduceAdd, Nat.reduceBEq, Nat.reduceLT, Bool.false_eq_true, if_true, if_false, ↓reduceIte, List.replicate, Option.map, Nat.reduceEqDiff, Nat.reduceLeDiff, reduceCtorEq, Nat.reduceSub, Nat.add_zero, Nat.zero_add, rst, rstL, rstHC, rstAV, rstCV, rstSV, rstV, verOf, Nat.ble, nlCVs, nlCV, nlSVs, resAV, List.getElem?_cons_zero, List.getElem?_cons_succ, mkS_map, fz, isRow, frzH, mkS_frz0, mkS_frz1, frzAV, frzCV, frzSV, frzHC, List.set, rowOf, List.drop, cast_eq, ↓reduceDIte, xfrz, frzL, nlM, canonS, List.map_cons, List.map_nil, SV.size, List.take_length, List.length_append]
    rfl
  · have h : ((stepWant p mem cores n).1 == 4) = false := by assumption
    have h : ¬ ((stepWant p mem cores n).1 == 4) = true := by rw [h]; simp
    have e1 : stepVer p mem cores v3 n = v3 := by unfold stepVer; rw [if_neg h]
    have e2 : stepOuts p mem cores outs n = outs := by unfold stepOuts; rw [if_neg h]
    rw [stepMem_len, stepCores_len, e1, e2]
    exact finG_trim [] rfl rfl ⟨rfl, rfl⟩
theorem t80 : c80.Ok Try.prog 80 := by
  intro args hp p v h' hrun hpre
  simp only [c80] at hrun
  unfold stepRun at hrun
  split at hrun
  · rename_i p i j n i1 v1 o1 l1 i2 v2 t2 o2 l2 i3 v3 t3 o3 l3 mem w1 t2' cores w2 t3' outs w3
    split at hrun
    · rename_i ht
      obtain ⟨rfl, rfl, rfl, rfl⟩ := ht
      split at hrun
      · rename_i p' n' hp' hn'
        simp only [Option.some.injEq, Prod.mk.injEq, cast_eq] at hrun
        obtain ⟨rfl, rfl, rfl⟩ := hrun
        obtain ⟨⟨rfl, rfl, rfl, rfl, rfl, rfl, rfl, rfl, rfl, rfl, rfl⟩, ⟨rfl, rfl, rfl⟩, h0, h1, h2, h3, h4⟩ := hpre
        exact ACall.normL [] [_, _] hp' (ACall.normL [_, _] [] hn' (step_ok p' n' mem cores outs v1 v2 v3 h0 h1 h2 h3 h4))
      · cases hrun
    · cases hrun
  · cases hrun
end Go.Proofs.Ytgkjgpiggjjmpaa.Ev
