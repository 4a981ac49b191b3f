/- Lemmas for the claim: append. (no condition.) -/
import Derived.Test.YtgkjgpiggjjmpaaEv9
/-! append. -/
namespace Go.Proofs.Ytgkjgpiggjjmpaa.Ev
open Go
set_option linter.unusedVariables false

section
variable {P : Program} {X : Tbl P} {w0 : World} {S : Who} {E : Env} {T T2 : TypeId}

def isSl : Ty → Bool
  | .sl _ => true
  | _ => false

theorem Tbl.slice (X : Tbl P) {i : TInfo} (hX : X.get T = some i) {t : Ty} (ht : i.t = .sl t) : P.underlying T = some (.slice i.elem) ∧ ∃ j, X.get i.elem = some j ∧ j.t = t ∧ 0 < t.sz := by
  have := (X.ok T i hX).und
  rw [ht] at this
  exact this

theorem Tbl.bytes (X : Tbl P) {j : TInfo} (hX : X.get T = some j) (w : World) : ∃ ti, (typeInfo T).run P w = .ok ti w ∧ ti.bytes = j.bytes := by
  obtain ⟨ti, zv, h1, h2, h3, _⟩ := (X.ok T j hX).info
  exact ⟨ti, run_typeInfo h1 w, h3⟩

theorem growBy_le (n : Nat) : ∀ r c, c < n → Builtin.growBy n r c ≤ n + n / 4 + 512
  | 0, c, h => by simp only [Builtin.growBy]; omega
  | r + 1, c, h => by
    simp only [Builtin.growBy]
    split
    · omega
    · by_cases h2 : c + (c + 768) / 4 < n
      · exact growBy_le n r _ h2
      · cases r with
        | zero => simp only [Builtin.growBy]; omega
        | succ r => simp only [Builtin.growBy]; split <;> omega

theorem nextcap_le {n c : Nat} (h : c < n) : Builtin.nextslicecap n c ≤ n + n / 4 + 512 := by
  unfold Builtin.nextslicecap
  split
  · omega
  · split
    · omega
    · exact growBy_le n 4 c h

theorem zeroCells_toList (z : Array Value) (n : Nat) : (Builtin.zeroCells z n).toList = (List.replicate n z.toList).flatten := by
  induction n with
  | zero => simp [Builtin.zeroCells]
  | succ n ih =>
    have e : (List.replicate (n + 1) z.toList).flatten = (List.replicate n z.toList).flatten ++ z.toList := by
      rw [List.replicate_succ', List.flatten_append]; simp
    rw [e, ← ih]
    apply List.ext_getElem?
    intro i
    have hs1 : (Builtin.zeroCells z n).toList.length = n * z.size := by simp [Builtin.zeroCells]
    have hs2 : (Builtin.zeroCells z (n + 1)).toList.length = (n + 1) * z.size := by simp [Builtin.zeroCells]
    rw [Nat.succ_mul] at hs2
    by_cases h1 : i < n * z.size
    · rw [List.getElem?_append_left (by omega), List.getElem?_eq_getElem (by omega), List.getElem?_eq_getElem (by omega)]
      simp [Builtin.zeroCells]
    · rw [List.getElem?_append_right (by omega), hs1]
      by_cases h2 : i < n * z.size + z.size
      · rw [List.getElem?_eq_getElem (by omega), List.getElem?_eq_getElem (by simp; omega)]
        have h0 : 0 < z.size := by omega
        have hm : i % z.size = i - n * z.size := by
          have e0 : z.size * n = n * z.size := Nat.mul_comm _ _
          have : i = (i - n * z.size) + z.size * n := by omega
          conv => lhs; rw [this]
          rw [Nat.add_mul_mod_self_left, Nat.mod_eq_of_lt (by omega)]
        simp only [Builtin.zeroCells, Array.toList_map, Array.toList_range, List.getElem_map, List.getElem_range, hm]
        rw [getElem!_pos z _ (by omega)]
        simp
      · rw [List.getElem?_eq_none (by omega), List.getElem?_eq_none (by simp; omega)]

theorem append_fits {i j i2 : TInfo} {t : Ty} (hX : X.get T = some i) (ht : i.t = .sl t) (hj : X.get i.elem = some j) (hX2 : X.get T2 = some i2) (ht2 : isSl i2.t = true) (ty : TypeId) (base A : Option Addr) (sLen sCap n c : Nat) (w w' : World)
    (new : Array Value) (hn : (Builtin.firstCells t.sz n (.slice A n c)).run P w = .ok new w) (hfit : sLen + n ≤ sCap)
    (hst : (match base with | some a => storeCells (a.add (sLen * t.sz)) new.toList | none => pure ()).run P w = .ok () w') :
    (Builtin.append_ #[T, T2] ty #[.slice base sLen sCap, .slice A n c]).run P w = .ok (.slice base (sLen + n) sCap) w' := by
  obtain ⟨hu, j', hj', rfl, hs⟩ := X.slice hX ht
  rw [hj] at hj'
  simp only [Option.some.injEq] at hj'
  subst hj'
  have hu2 : ∃ e2, P.underlying T2 = some (.slice e2) := by
    cases e : i2.t with
    | sl t2 => exact ⟨_, (X.slice hX2 e).1⟩
    | _ => rw [e] at ht2; cases ht2
  obtain ⟨e2, hu2⟩ := hu2
  simp only [Builtin.append_, List.getElem?_toArray, List.getElem?_cons_zero, List.getElem?_cons_succ, Sem.run_bind, run_underlying hu, Result.andThen_ok, X.size hj, run_underlying hu2, Sem.run_pure, Builtin.lenOf, Bool.false_eq_true, if_false, hfit, if_true,
    Bool.not_false, hn]
  cases base with
  | none => simp only [Sem.run_pure, Result.ok.injEq] at hst ⊢; simp [hst]
  | some a => simp only at hst ⊢; simp [hst]

theorem append_grows {i j i2 : TInfo} {t : Ty} (hX : X.get T = some i) (ht : i.t = .sl t) (hj : X.get i.elem = some j) (hX2 : X.get T2 = some i2) (ht2 : isSl i2.t = true) (ty : TypeId) (base A : Option Addr) (sLen sCap n c : Nat) (w : World)
    (old new : Array Value) (hn : ∀ w' : World, w'.heap = w.heap → (Builtin.firstCells t.sz n (.slice A n c)).run P w' = .ok new w') (ho : ∀ w' : World, w'.heap = w.heap → (Builtin.firstCells t.sz sLen (.slice base sLen sCap)).run P w' = .ok old w') (hfit : sCap < sLen + n)
    (hb : (sLen + n) * j.bytes ≤ 140737488355328) (hb0 : 0 < j.bytes) (hb1 : j.bytes ≤ 1073741824) :
    ∃ (cap : Nat) (rest : Array Value) (w1 : World), sLen + n ≤ cap ∧ rest.toList = (List.replicate (cap - (sLen + n)) (zc t)).flatten ∧ w1.heap = w.heap ∧ w1.os = w.os ∧ w1.tape = w.tape ∧ w1.output = w.output ∧
      (Builtin.append_ #[T, T2] ty #[.slice base sLen sCap, .slice A n c]).run P w = .ok (.slice (some ⟨w1.heap.size, 0, none⟩) (sLen + n) cap) { w1 with heap := w1.heap.push (.cells (old ++ new ++ rest) i.elem) } := by
  obtain ⟨hu, j', hj', rfl, hs⟩ := X.slice hX ht
  rw [hj] at hj'
  simp only [Option.some.injEq] at hj'
  subst hj'
  have hu2 : ∃ e2, P.underlying T2 = some (.slice e2) := by
    cases e : i2.t with
    | sl t2 => exact ⟨_, (X.slice hX2 e).1⟩
    | _ => rw [e] at ht2; cases ht2
  obtain ⟨e2, hu2⟩ := hu2
  obtain ⟨ti, zv, hi1, hi2, hbt, hi4, hzc, hi6⟩ := (X.ok _ j hj).info
  have hz : ∀ w : World, (zeroValue i.elem).run P w = .ok zv w := fun w => by simp [zeroValue, run_typeInfo hi1, hi4]
  have hcap := nextcap_le hfit
  have h1 : ¬ (sLen + n ≤ sCap) := by omega
  have h2 : ¬ (((sLen + n : Nat) : Int) > IntKind.i64.max ∧ (False ∨ j.bytes = 0)) := by rintro ⟨_, h | h⟩ <;> omega
  have h3 : ¬ (Builtin.nextslicecap (sLen + n) sCap * j.bytes > 2 ^ 48) := by
    have := Nat.mul_le_mul_right j.bytes hcap
    rw [Nat.add_mul, Nat.add_mul] at this
    have e : (sLen + n) / 4 * j.bytes ≤ (sLen + n) * j.bytes / 4 := by
      rw [Nat.le_div_iff_mul_le (by omega), Nat.mul_right_comm]
      exact Nat.mul_le_mul_right _ (Nat.div_mul_le_self _ _)
    omega
  have hq : (Question.appendCap (sLen + n) sCap i.elem).forced = false := rfl
  refine ⟨(Question.appendCap (sLen + n) sCap i.elem).cut (w.tape w.drawn (.appendCap (sLen + n) sCap i.elem)), Builtin.zeroCells zv.cells ((Question.appendCap (sLen + n) sCap i.elem).cut (w.tape w.drawn (.appendCap (sLen + n) sCap i.elem)) - (sLen + n)),
    { w with drawn := w.drawn + 1 }, ?_, ?_, rfl, rfl, rfl, rfl, ?_⟩
  · simp only [Question.cut]; omega
  · rw [zeroCells_toList, hzc]
  · simp only [Builtin.append_, List.getElem?_toArray, List.getElem?_cons_zero, List.getElem?_cons_succ, Sem.run_bind, run_underlying hu, Result.andThen_ok, X.size hj, run_underlying hu2, Sem.run_pure, Builtin.lenOf, Bool.false_eq_true, if_false, h1,
      Bool.not_false, if_true, run_typeInfo hi1, Sem.run_ite, hbt, h2, h3, run_choose, hq, run_askRoom, ho { w with drawn := w.drawn + 1 } rfl, hn { w with drawn := w.drawn + 1 } rfl, hz, newRow, run_newObj]

def appendF {P : Program} (X : Tbl P) (T T2 slot : Nat) (hp : List HC) (a b : SV) : Option (Prop × CV × List HC) :=
  match X.get T with
  | some i => match i.t with
    | .sl t => match X.get i.elem, X.get T2, rowVal hp t b with
      | some j, some i2, some ys => if isSl i2.t = true ∧ 0 < j.bytes ∧ j.bytes ≤ 1073741824 then
          (match a with
          | .nl _ => some (ys.length * j.bytes ≤ 140737488355328, .one (.ref slot 0 t 0 ys.length), hp.set slot (.live (.row t ys 0)))
          | .ref id ver t' off len => if t' = t then (match rowOf hp id ver t with
            | some xs => some ((len + ys.length) * j.bytes ≤ 140737488355328, .one (.ref id (ver + 1) t 0 (len + ys.length)), hp.set id (.live (.row t ((xs.drop off).take len ++ ys) (ver + 1))))
            | none => none) else none
          | _ => none) else none
      | _, _, _ => none
    | _ => none
  | none => none

theorem cell_heap {w w' : World} (h : w'.heap = w.heap) (a : Addr) : w'.cell? a = w.cell? a := by simp [World.cell?, h]
theorem CellsAt.heap {w w' : World} (h : w'.heap = w.heap) {b o : Nat} {cs : List Value} (hc : CellsAt w b o cs) : CellsAt w' b o cs := fun j v hj => by rw [cell_heap h]; exact hc j v hj
theorem Segs.heap {w w' : World} {F : Nat → Prop} (h : w'.heap = w.heap) {t : Ty} {xs : List t.D} {cs : List Value} (hc : Segs (KC w F t) xs cs) : Segs (KC w' F t) xs cs := hc.imp fun _ _ hk => KC.move (fun _ h => h) (fun _ _ => by rw [h]) hk

theorem cut3 (q n : Nat) (l : List Value) : l = l.take q ++ ((l.drop q).take n) ++ l.drop (q + n) := by
  rw [List.append_assoc, ← List.drop_drop, List.take_append_drop, List.take_append_drop]

/-- The row behind an append that made a new block. -/
theorem grown_ok (h : HR w0 S E) {id : Nat} {r : Root} {t : Ty} {xs : List t.D} {ver : Nat} (hi : ∃ c, E.hp[id]? = some c ∧ (c = .fresh ∨ ∃ xs0 ver0, c = .live (.row t xs0 ver0) ∧ ver0 < ver)) {old new rest : Array Value} {cap : Nat} {ty : TypeId} {n1 n2 : Nat} {c1 c2 : List Value} {xs1 xs2 : List t.D}
    (hxs : xs = xs1 ++ xs2) (h1 : Segs (KC E.w E.F t) xs1 c1) (h2 : Segs (KC E.w E.F t) xs2 c2) (e1 : old.toList = c1) (e2 : new.toList = c2) (hcap : lenOk xs.length cap) (hrest : rest.toList = (List.replicate (cap - xs.length) (zc t)).flatten)
    (w1 : World) (hw1 : w1.heap = E.w.heap) (g1 : w1.os = E.w.os) (g2 : w1.tape = E.w.tape) (g3 : w1.output = E.w.output) :
    ∃ E', E'.w = { w1 with heap := w1.heap.push (.cells (old ++ new ++ rest) ty) } ∧ E'.hp = E.hp.set id (.live (.row t xs ver)) ∧ Le E E' ∧ HR w0 S E' ∧ SVR E' (.ref id ver t 0 xs.length) (.slice (some ⟨w1.heap.size, 0, none⟩) xs.length cap) := by
  obtain ⟨c, hc, hcase⟩ := hi
  have hlen : id < E.hp.length := (List.getElem?_eq_some_iff.1 hc).1
  have hfol : follows (E.loc id) (some ⟨E.w.heap.size, 0, cap⟩) (some c) (.row t xs ver) := by
    rcases hcase with rfl | ⟨xs0, ver0, rfl, hv⟩
    · trivial
    · exact ⟨rfl, by omega, fun e => by omega⟩
  obtain ⟨le, hr⟩ := h.put id (.row t xs ver) (some ⟨E.w.heap.size, 0, cap⟩) { w1 with heap := w1.heap.push (.cells (old ++ new ++ rest) ty) } ⟨c, hc, hfol⟩ (fun b hb hlt => by
      simp only [hw1, Array.getElem?_push]; rw [if_neg (by omega)]) (by simp [hw1]) g1 g2 g3 (fun l e => by
      simp only [Option.some.injEq] at e; subst e; exact ⟨by simp [hw1], .inl (Nat.le_refl _)⟩)
  have hget : (E.put id (.row t xs ver) (some ⟨E.w.heap.size, 0, cap⟩) { w1 with heap := w1.heap.push (.cells (old ++ new ++ rest) ty) }).hp[id]? = some (.live (.row t xs ver)) := by simp [Env.put, hlen]
  refine ⟨_, rfl, rfl, le, hr ?_, ?_⟩
  · simp only [RootR, Env.put, if_true]
    have hb : ({ w1 with heap := w1.heap.push (.cells (old ++ new ++ rest) ty) } : World).heap[E.w.heap.size]? = some (.cells (old ++ new ++ rest) ty (0, 0)) := by rw [← hw1]; exact push_heap _ _
    have hzl : ((List.replicate (cap - xs.length) (zc t)).flatten).length = (cap - xs.length) * t.sz := by
      have := (segs_zero (w := E.w) (F := E.F) (t := t) (cap - xs.length)).length (fun _ _ hk => hk.len)
      simpa using this
    refine ⟨ty, _, hb, ?_, hcap, ?_⟩
    · have l1 := h1.length (fun _ _ hk => hk.len)
      have l2 := h2.length (fun _ _ hk => hk.len)
      have l3 : xs.length * t.sz = xs1.length * t.sz + xs2.length * t.sz := by rw [hxs, List.length_append, Nat.add_mul]
      have l4 : cap * t.sz = xs.length * t.sz + (cap - xs.length) * t.sz := by rw [← Nat.add_mul]; congr 1; omega
      have l5 : (old ++ new ++ rest).size = old.toList.length + new.toList.length + rest.toList.length := by simp; omega
      rw [l5, e1, e2, hrest, l1, l2, hzl]
      show 0 + cap * t.sz ≤ _
      omega
    · have hca := cellsAt_heap hb
      rw [show (old ++ new ++ rest).toList = (c1 ++ c2) ++ rest.toList by simp [e1, e2]] at hca
      have hs : Segs (KC E.w E.F t) xs (c1 ++ c2) := by rw [hxs]; exact h1.append h2
      exact segs_row (hs.imp fun _ _ hk => KC.move le.F le.Fw hk) hca.left
  · refine ⟨by rw [hget]; exact fun h => h, fun xs' ver' hb => ?_⟩
    rw [hget] at hb
    simp only [Option.some.injEq, HC.live.injEq, Root.row.injEq, heq_eq_eq, true_and] at hb
    obtain ⟨rfl, rfl⟩ := hb
    refine ⟨Nat.le_refl _, fun _ => ⟨by omega, ?_⟩⟩
    simp only [Env.put, if_true]
    exact ⟨_, by simp; rfl, fun _ => by simp [hw1]⟩

theorem len_bytes {n b : Nat} (hb : 0 < b) (h : n * b ≤ 140737488355328) : n ≤ 140737488355328 := by
  have := Nat.le_mul_of_pos_right n hb
  omega

theorem appendF_ok (h : HR w0 S E) {slot : Nat} (hslot : E.hp[slot]? = some .fresh) {a b : SV} {v u : Value} (hv : SVR E a v) (hu : SVR E b u) {p : Prop} {r : CV} {hp' : List HC} (hr : appendF X T T2 slot E.hp a b = some (p, r, hp')) (hp : p) (ty : TypeId) :
    Comes1 P w0 S E (Builtin.append_ #[T, T2] ty #[v, u]) r hp' := by
  unfold appendF at hr
  split at hr
  case h_2 => cases hr
  rename_i i hX
  split at hr
  case h_2 => cases hr
  rename_i t ht
  split at hr
  case h_2 => cases hr
  rename_i j i2 ys hj hX2 hys
  split at hr
  case isFalse => cases hr
  rename_i hcond
  obtain ⟨ht2, hb0, hb1⟩ := hcond
  obtain ⟨A, c, cs, rfl, hsy, hAy⟩ := rowVal_ok h hu hys
  have hfc : ∀ w' : World, w'.heap = E.w.heap → ∃ r : Array Value, (Builtin.firstCells t.sz ys.length (.slice A ys.length c)).run P w' = .ok r w' ∧ r.toList = cs := fun w' hw' =>
    firstCells_ok (hsy.heap hw') (fun hne => by obtain ⟨b, o, e, hc, _⟩ := hAy hne; exact ⟨b, o, e, hc.heap hw'⟩) _ rfl
  have hfc' : ∀ w' : World, w'.heap = E.w.heap → (Builtin.firstCells t.sz ys.length (.slice A ys.length c)).run P w' = .ok cs.toArray w' := fun w' hw' => by
    obtain ⟨r, h1, h2⟩ := hfc w' hw'
    rw [h1, ← h2]
  cases a with
  | nl t' =>
    simp only [Option.some.injEq, Prod.mk.injEq] at hr
    obtain ⟨rfl, rfl, rfl⟩ := hr
    rw [show v = _ from hv]
    by_cases hne : ys = []
    · subst hne
      cases hsy
      have hrun := append_fits (P := P) hX ht hj hX2 ht2 ty none A 0 0 0 c E.w E.w #[] (by simpa using hfc' E.w rfl) (Nat.le_refl _) rfl
      obtain ⟨le, hr⟩ := h.put slot (.row t [] 0) none E.w ⟨_, hslot, trivial⟩ (fun _ _ _ => rfl) (Nat.le_refl _) rfl rfl rfl (fun l e => by cases e)
      have hlen : slot < E.hp.length := (List.getElem?_eq_some_iff.1 hslot).1
      have hget : (E.put slot (.row t [] 0) none E.w).hp[slot]? = some (.live (.row t [] 0)) := by simp [Env.put, hlen]
      refine ⟨_, E.put slot (.row t [] 0) none E.w, hrun, rfl, le, hr (by simp [RootR, Env.put]), by rw [hget]; exact fun h => h, fun xs' ver' hb => ?_⟩
      rw [hget] at hb
      simp only [Option.some.injEq, HC.live.injEq, Root.row.injEq, heq_eq_eq, true_and] at hb
      obtain ⟨rfl, rfl⟩ := hb
      exact ⟨Nat.le_refl _, fun _ => ⟨by simp, by simp [Env.put]⟩⟩
    · have hpos : 0 < ys.length := List.length_pos_iff.2 hne
      obtain ⟨cap, rest, w1, hcap, hrest, g0, g1, g2, g3, hrun⟩ := append_grows (P := P) hX ht hj hX2 ht2 ty none A 0 0 ys.length c E.w #[] cs.toArray hfc' (fun w' hw' => by simp [Builtin.firstCells]) (by omega) (by simpa using hp) hb0 hb1
      obtain ⟨E', k1, k2, k3, k4, k5⟩ := grown_ok h (r := .row t ys 0) (id := slot) (t := t) (xs := ys) (ver := 0) ⟨_, hslot, .inl rfl⟩ (old := #[]) (new := cs.toArray) (rest := rest) (cap := cap) (ty := i.elem) (n1 := 0) (n2 := 0) (c1 := []) (c2 := cs) (xs1 := []) (xs2 := ys) rfl rfl hsy rfl rfl ⟨by omega, len_bytes hb0 hp⟩ (by simpa using hrest) w1 g0 g1 g2 g3
      exact ⟨_, E', by rw [k1]; simpa using hrun, k2, k3, k4, k5⟩
  | ref id ver t' off len =>
    simp only at hr
    split at hr
    case isFalse => cases hr
    rename_i he
    subst he
    split at hr
    case h_2 => cases hr
    rename_i xs hxs
    simp only [Option.some.injEq, Prod.mk.injEq] at hr
    obtain ⟨rfl, rfl, rfl⟩ := hr
    have hb := rowOf_some hxs
    have hlen0 : id < E.hp.length := (List.getElem?_eq_some_iff.1 hb).1
    obtain ⟨A0, c0, cs0, e0, hs0, hA0⟩ := rowVal_ok (t := t') (xs := (xs.drop off).take len) h hv (by simp [rowVal, hxs])
    obtain ⟨hn, hv1⟩ := hv
    have hv2 := (hv1 xs ver hb).2 rfl
    clear hv1
    obtain ⟨hle, hv3⟩ := hv2
    have hl0 : ((xs.drop off).take len).length = len := by rw [List.length_take, List.length_drop]; omega
    rw [hl0] at e0
    have hfo : ∀ w' : World, w'.heap = E.w.heap → (Builtin.firstCells t'.sz len (.slice A0 len c0)).run P w' = .ok cs0.toArray w' := fun w' hw' => by
      obtain ⟨r, h1, h2⟩ := firstCells_ok (P := P) (c := c0) (hs0.heap hw') (fun hne => by obtain ⟨b, o, e, hc, _⟩ := hA0 hne; exact ⟨b, o, e, hc.heap hw'⟩) len hl0.symm
      rw [h1, ← h2]
    have hrootb := h.root id _ hb
    simp only [RootR] at hrootb
    subst e0
    by_cases hfit : len + ys.length ≤ c0
    · -- within the room that is there
      have hput : ∀ (w' : World) (l' : Option Loc), (∀ b, (∀ l, l' = some l → b ≠ l.b) → b < E.w.heap.size → w'.heap[b]? = E.w.heap[b]?) → E.w.heap.size ≤ w'.heap.size → w'.os = E.w.os → w'.tape = E.w.tape → w'.output = E.w.output →
          (∀ l, l' = some l → ∃ l0, E.loc id = some l0 ∧ l.b = l0.b) → Le E (E.put id (.row t' ((xs.drop off).take len ++ ys) (ver + 1)) l' w') ∧
          (RootR (E.put id (.row t' ((xs.drop off).take len ++ ys) (ver + 1)) l' w') id (.row t' ((xs.drop off).take len ++ ys) (ver + 1)) → HR w0 S (E.put id (.row t' ((xs.drop off).take len ++ ys) (ver + 1)) l' w')) := by
        intro w' l' a1 a2 a3 a4 a5 a6
        refine h.put id _ l' w' ⟨_, hb, rfl, by omega, fun e => by omega⟩ a1 a2 a3 a4 a5 (fun l e => ?_)
        obtain ⟨l0, e1, e2⟩ := a6 l e
        exact ⟨by have := h.inside id _ l0 hb e1; omega, .inr ⟨_, l0, hb, e1, e2⟩⟩
      have hget : ∀ l' w', (E.put id (.row t' ((xs.drop off).take len ++ ys) (ver + 1)) l' w').hp[id]? = some (.live (.row t' ((xs.drop off).take len ++ ys) (ver + 1))) := fun l' w' => by simp [Env.put, hlen0]
      cases hloc : E.loc id with
      | none =>
        rw [hloc] at hrootb hv3
        subst hrootb
        simp only [Value.slice.injEq] at hv3
        obtain ⟨rfl, rfl, rfl⟩ := hv3
        have hy0 : ys = [] := List.eq_nil_of_length_eq_zero (by omega)
        subst hy0
        cases hsy
        have hrun := append_fits (P := P) hX ht hj hX2 ht2 ty none A 0 0 0 c E.w E.w #[] (by simpa using hfc' E.w rfl) (Nat.le_refl _) rfl
        obtain ⟨le, hr⟩ := hput E.w none (fun _ _ _ => rfl) (Nat.le_refl _) rfl rfl rfl (fun l e => by cases e)
        refine ⟨_, E.put id _ none E.w, hrun, rfl, le, hr (by simp [RootR, Env.put]), by rw [hget]; exact fun h => h, fun xs' ver' hb' => ?_⟩
        rw [hget] at hb'
        simp only [Option.some.injEq, HC.live.injEq, Root.row.injEq, heq_eq_eq, true_and] at hb'
        obtain ⟨rfl, rfl⟩ := hb'
        exact ⟨Nat.le_refl _, fun _ => ⟨by simp, by simp [Env.put]⟩⟩
      | some l =>
        rw [hloc] at hrootb hv3
        obtain ⟨A', e3, hA'⟩ := hv3
        simp only [Value.slice.injEq] at e3
        obtain ⟨rfl, _, rfl⟩ := e3
        obtain ⟨tyb, cells, hcb, hcapb, hlenb, hrow⟩ := hrootb
        have hin := h.inside id _ l hb hloc
        -- the cells that are written
        by_cases hy0 : ys = []
        · subst hy0
          cases hsy
          have hrun := append_fits (P := P) hX ht hj hX2 ht2 ty A0 A len (l.cap - off) 0 c E.w E.w #[] (by simpa using hfc' E.w rfl) (by simpa using hfit) (by cases A0 <;> simp [storeCells])
          obtain ⟨le, hr⟩ := hput E.w (some ⟨l.b, l.o + off * t'.sz, l.cap - off⟩) (fun _ _ _ => rfl) (Nat.le_refl _) rfl rfl rfl (fun l' e => by simp only [Option.some.injEq] at e; subst e; exact ⟨l, hloc, rfl⟩)
          refine ⟨_, E.put id _ (some ⟨l.b, l.o + off * t'.sz, l.cap - off⟩) E.w, hrun, rfl, le, hr ?_, by rw [hget]; exact fun h => h, fun xs' ver' hb' => ?_⟩
          · simp only [RootR, Env.put, if_true, List.append_nil]
            refine ⟨tyb, cells, hcb, ?_, ⟨by rw [hl0]; simpa using hfit, by rw [hl0]; exact len_bytes hb0 (by simpa using hp)⟩, fun q x hx => ?_⟩
            · have : off * t'.sz + (l.cap - off) * t'.sz ≤ l.cap * t'.sz ∨ l.cap < off := by
                rcases Nat.lt_or_ge l.cap off with h1 | h1
                · exact .inr h1
                · left; rw [← Nat.add_mul, Nat.add_sub_cancel' h1]; exact Nat.le_refl _
              omega
            · rw [List.getElem?_take, List.getElem?_drop] at hx
              split at hx
              · obtain ⟨ec, h5, h6⟩ := hrow (off + q) x hx
                exact ⟨ec, KC.move le.F le.Fw h5, by rw [Nat.add_mul, ← Nat.add_assoc] at h6; exact h6⟩
              · cases hx
          · rw [hget] at hb'
            simp only [Option.some.injEq, HC.live.injEq, Root.row.injEq, heq_eq_eq, true_and] at hb'
            obtain ⟨rfl, rfl⟩ := hb'
            refine ⟨Nat.le_refl _, fun _ => ⟨by simp [hl0], ?_⟩⟩
            simp only [Env.put, if_true]
            exact ⟨_, by simp; rfl, fun hlt => by
              have h9 : 0 < l.cap - off := hlt
              simpa using hA' (by omega)⟩
        · have hpos : 0 < ys.length := List.length_pos_iff.2 hy0
          obtain rfl := hA' (by omega)
          have hcl : cells.toList.length = cells.size := Array.length_toList
          have hy1 : cs.length = ys.length * t'.sz := hsy.length fun _ _ hk => hk.len
          have hoc : (off + len + ys.length) * t'.sz ≤ l.cap * t'.sz := Nat.mul_le_mul_right _ (by omega)
          rw [Nat.add_mul, Nat.add_mul] at hoc
          have hcut : cells.toList = cells.toList.take (l.o + off * t'.sz + len * t'.sz) ++ ((cells.toList.drop (l.o + off * t'.sz + len * t'.sz)).take cs.length) ++ (cells.toList.drop (l.o + off * t'.sz + len * t'.sz + cs.length)) := by
            exact cut3 _ _ _
          obtain ⟨w', hst, hw1, hw2, hw3, hw4, hw5, hw6⟩ := run_storeCells (P := P) (w := E.w) (b := l.b) (o := l.o + off * t'.sz + len * t'.sz) cs 0 cells _ _ _ hcb hcut (by rw [List.length_take]; omega) (by rw [List.length_take, List.length_drop]; omega) (by
            have : ∀ (ys : List t'.D) (cs : List Value), Segs (KC E.w E.F t') ys cs → ∀ v ∈ cs, v.oneCell' = true := by
              intro ys
              induction ys with
              | nil => intro cs hs; cases hs; simp
              | cons y ys ih =>
                intro cs hs v hv
                obtain ⟨c1, c2, rfl, h1, h2⟩ := hs
                rcases List.mem_append.1 hv with hv | hv
                · exact h1.one v hv
                · exact ih _ h2 v hv
            exact this _ _ hsy)
          have hrun := append_fits (P := P) hX ht hj hX2 ht2 ty (some ⟨l.b, l.o + off * t'.sz, none⟩) A len (l.cap - off) ys.length c E.w w' cs.toArray (hfc' E.w rfl) hfit (by simp only [add_off]; exact hst)
          obtain ⟨le, hr⟩ := hput w' (some ⟨l.b, l.o + off * t'.sz, l.cap - off⟩) (fun b hb' _ => hw2 b (hb' ⟨l.b, l.o + off * t'.sz, l.cap - off⟩ rfl)) (by omega) hw4 hw5 hw6 (fun l' e => by simp only [Option.some.injEq] at e; subst e; exact ⟨l, hloc, rfl⟩)
          refine ⟨_, E.put id _ (some ⟨l.b, l.o + off * t'.sz, l.cap - off⟩) w', hrun, rfl, le, hr ?_, by rw [hget]; exact fun h => h, fun xs' ver' hb' => ?_⟩
          · simp only [RootR, Env.put, if_true]
            have hsz' : ((cells.toList.take (l.o + off * t'.sz + len * t'.sz) ++ cs ++ cells.toList.drop (l.o + off * t'.sz + len * t'.sz + cs.length)).toArray).size = cells.size := by
              rw [List.size_toArray, List.length_append, List.length_append, List.length_take, List.length_drop]; omega
            refine ⟨tyb, _, hw1, ?_, ⟨by rw [List.length_append, hl0]; exact hfit, by rw [List.length_append, hl0]; exact len_bytes hb0 hp⟩, ?_⟩
            · rw [hsz']
              have : off * t'.sz + (l.cap - off) * t'.sz = l.cap * t'.sz := by rw [← Nat.add_mul]; congr 1; omega
              show l.o + off * t'.sz + (l.cap - off) * t'.sz ≤ _
              omega
            · have hca := cellsAt_heap hw1
              -- the elder elements, and the new ones
              have hold : CellsAt w' l.b (l.o + off * t'.sz) cs0 := by
                have hne0 : cs0.length = len * t'.sz := by rw [hs0.length (fun _ _ hk => hk.len), hl0]
                intro q v' hq
                have hql : q < len * t'.sz := by rw [← hne0]; exact (List.getElem?_eq_some_iff.1 hq).1
                have hne : (xs.drop off).take len ≠ [] := by
                  intro e; rw [e] at hl0; simp at hl0; rw [← hl0] at hql; simp at hql
                obtain ⟨b2, o2, e2, hc2, _⟩ := hA0 hne
                simp only [Option.some.injEq, Addr.mk.injEq, and_true] at e2
                obtain ⟨rfl, rfl⟩ := e2
                have := hc2 q v' hq
                simp only [World.cell?, hcb] at this
                have h8 : cells.toList[l.o + off * t'.sz + q]? = some v' := by simpa using this
                have := hca (l.o + off * t'.sz + q) v' (by
                  rw [List.append_assoc, List.getElem?_append_left (by rw [List.length_take]; omega), List.getElem?_take_of_lt (by omega)]; exact h8)
                simpa using this
              have hnew : CellsAt w' l.b (l.o + off * t'.sz + cs0.length) cs := by
                have hne0 : cs0.length = len * t'.sz := by rw [hs0.length (fun _ _ hk => hk.len), hl0]
                have := CellsAt.seg hca
                rw [List.length_take, Nat.min_eq_left (by omega), Nat.zero_add] at this
                rw [hne0]; exact this
              exact segs_row ((hs0.append hsy).imp fun _ _ hk => KC.move le.F le.Fw hk) (hold.append hnew)
          · rw [hget] at hb'
            simp only [Option.some.injEq, HC.live.injEq, Root.row.injEq, heq_eq_eq, true_and] at hb'
            obtain ⟨rfl, rfl⟩ := hb'
            refine ⟨Nat.le_refl _, fun _ => ⟨by simp [hl0], ?_⟩⟩
            simp only [Env.put, if_true]
            exact ⟨_, by simp; rfl, fun hlt => by simp⟩
    · obtain ⟨cap, rest, w1, hcap, hrest, g0, g1, g2, g3, hrun⟩ := append_grows (P := P) hX ht hj hX2 ht2 ty A0 A len c0 ys.length c E.w cs0.toArray cs.toArray hfc' hfo (by omega) hp hb0 hb1
      obtain ⟨E', k1, k2, k3, k4, k5⟩ := grown_ok h (r := .row t' ys 0) (id := id) (t := t') (xs := (xs.drop off).take len ++ ys) (ver := ver + 1) ⟨_, hb, .inr ⟨xs, ver, rfl, by omega⟩⟩ (old := cs0.toArray) (new := cs.toArray) (rest := rest) (cap := cap) (ty := i.elem) (n1 := 0) (n2 := 0) (c1 := cs0) (c2 := cs)
        rfl hs0 hsy rfl rfl ⟨by rw [List.length_append, hl0]; exact hcap, by rw [List.length_append, hl0]; exact len_bytes hb0 hp⟩ (by rw [List.length_append, hl0]; exact hrest) w1 g0 g1 g2 g3
      rw [List.length_append, hl0] at k5
      exact ⟨_, E', by rw [k1]; simpa using hrun, k2, k3, k4, k5⟩
  | _ => simp at hr
end
end Go.Proofs.Ytgkjgpiggjjmpaa.Ev
