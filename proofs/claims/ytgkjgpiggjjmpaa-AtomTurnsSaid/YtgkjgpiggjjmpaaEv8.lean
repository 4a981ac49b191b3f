/- Lemmas for the claim: Stores, as the evaluator makes them. (no condition.) -/
import Derived.Test.YtgkjgpiggjjmpaaEv7
/-! Stores, as the evaluator makes them. -/
namespace Go.Proofs.Ytgkjgpiggjjmpaa.Ev
open Go
set_option linter.unusedVariables false

def isLive (hp : List HC) : SV → Bool
  | .u => false
  | .ref id ver t _ _ => (rowOf hp id ver t).isSome
  | .bp id _ => (boxOf hp id).isSome
  | .ip id _ _ => (boxOf hp id).isSome
  | .rp id ver t _ _ => (rowOf hp id ver t).isSome
  | _ => true

def leavesOf (t : Ty) : CV → Option (List SV)
  | .agg l => if t.isPair then some l else none
  | .one (.c t' x) => if t' = t then some (expl t' x) else none
  | .one a => if t.isAgg then none else some [a]
  | _ => none

def storeF {P : Program} (X : Tbl P) (T : TypeId) (hp : List HC) (val : CV) : SV → Option (List HC)
  | .bp id j => match X.get T, boxOf hp id with
    | some i, some ls => match leavesOf i.t val with
      | some l' => if l'.map SV.size = ((ls.drop j).take l'.length).map SV.size ∧ l'.all (isLive hp) = true ∧ sumsz l' = i.t.sz
          then some (hp.set id (.live (.box (ls.take j ++ l' ++ ls.drop (j + l'.length))))) else none
      | none => none
    | _, _ => none
  | .ip id j k => match X.get T, boxOf hp id with
    | some i, some ls => match ls[j]? with
      | some (.c (.arr n e) xs) => if e = i.t ∧ e.isAgg = false ∧ e.sz = 1 then (match toT e val with
        | some y => some (hp.set id (.live (.box (ls.take j ++ [.c (.arr n e) (List.set xs k y)] ++ ls.drop (j + 1)))))
        | none => none) else none
      | _ => none
    | _, _ => none
  | .rp id ver t k p => match X.get T, rowOf hp id ver t with
    | some i, some xs => match toT i.t val with
      | some y => match setp t (xs.getD k t.z) p i.t y with
        | some x' => some (hp.set id (.live (.row t (xs.set k x') ver)))
        | none => none
      | none => none
    | _, _ => none
  | _ => none

section
variable {P : Program} {X : Tbl P} {w0 : World} {S : Who} {E : Env} {T : TypeId}

theorem isLive_one (h : HR w0 S E) {a : SV} {v : Value} (hl : isLive E.hp a = true) (hv : SVR E a v) (hc : ∀ t x, a ≠ .c t x) : v.oneCell' = true := by
  cases a with
  | u => cases hl
  | c t x => exact absurd rfl (hc t x)
  | nl t => rw [show v = _ from hv]; rfl
  | ref id ver t off len =>
    obtain ⟨xs, hx⟩ := Option.isSome_iff_exists.1 hl
    obtain ⟨hn, hv⟩ := hv
    obtain ⟨_, hv⟩ := hv xs ver (rowOf_some hx)
    obtain ⟨_, hv⟩ := hv rfl
    split at hv
    · subst hv; rfl
    · obtain ⟨A, rfl, _⟩ := hv; rfl
  | bp id j =>
    obtain ⟨xs, hx⟩ := Option.isSome_iff_exists.1 hl
    obtain ⟨hn, hv⟩ := hv
    obtain ⟨_, l, _, rfl⟩ := hv xs (boxOf_some hx); rfl
  | ip id j i =>
    obtain ⟨xs, hx⟩ := Option.isSome_iff_exists.1 hl
    obtain ⟨hn, hv⟩ := hv
    obtain ⟨_, l, _, rfl⟩ := hv xs (boxOf_some hx); rfl
  | rp id ver t i p =>
    obtain ⟨xs, hx⟩ := Option.isSome_iff_exists.1 hl
    obtain ⟨hn, hv⟩ := hv
    obtain ⟨_, hv⟩ := hv xs ver (rowOf_some hx)
    obtain ⟨_, l, _, d, t', _, rfl⟩ := hv rfl; rfl
  | cp t x => obtain ⟨b, o, cs, rfl, _⟩ := hv; rfl

theorem live_cells (h : HR w0 S E) : ∀ {l : List SV} {cs : List Value}, l.all (isLive E.hp) = true → Segs (SVC E) l cs → ∀ v ∈ cs, v.oneCell' = true
  | [], _, _, hs => by cases hs; simp
  | a :: l, _, ha, ⟨c1, c2, e, h1, h2⟩ => by
    subst e
    simp only [List.all_cons, Bool.and_eq_true] at ha
    intro v hv
    rcases List.mem_append.1 hv with hv | hv
    · cases a with
      | c t x => exact KC.one h1 v hv
      | _ =>
        obtain ⟨u, rfl, hu⟩ := h1
        simp only [List.mem_singleton] at hv
        subst hv
        exact isLive_one h ha.1 hu (by intros; simp)
    · exact live_cells h ha.2 h2 v hv

theorem leavesOf_ok (h : HR w0 S E) {t : Ty} {a : CV} {l : List SV} {v : Value} (ha : leavesOf t a = some l) (hl : l.all (isLive E.hp) = true) (hv : CVR E a v) : Segs (SVC E) l v.cells.toList := by
  cases a with
  | one b =>
    cases b with
    | c t' x =>
      simp only [leavesOf] at ha
      split at ha
      · simp only [Option.some.injEq] at ha
        subst ha
        obtain ⟨cs, hk, rfl⟩ := hv
        rw [mkv_cells hk]
        exact hk.expl
      · cases ha
    | _ =>
      simp only [leavesOf] at ha
      split at ha
      · cases ha
      · simp only [Option.some.injEq] at ha
        subst ha
        simp only [List.all_cons, List.all_nil, Bool.and_true] at hl
        have h1 := isLive_one (v := v) h hl hv (by intros; simp)
        have : v.cells.toList = [v] := by cases v <;> first | rfl | simp [Value.oneCell'] at h1
        rw [this]
        exact ⟨[v], [], by simp, ⟨v, rfl, hv⟩, rfl⟩
  | agg l' =>
    simp only [leavesOf] at ha
    split at ha
    · simp only [Option.some.injEq] at ha
      subst ha
      obtain ⟨cs, hs, rfl⟩ := hv
      simpa [Value.cells] using hs
    · cases ha
  | fn f caps => simp [leavesOf] at ha

/-- Cells of a box are written: what it holds then. -/
theorem box_write (h : HR w0 S E) {id : Nat} {ls : List SV} {l : Loc} {ty : TypeId} {cells : Array Value} (hb : E.hp[id]? = some (.live (.box ls))) (hl : E.loc id = some l)
    (hc : E.w.heap[l.b]? = some (.cells cells ty (0, 0))) (w' : World) (cells' : Array Value) (hc' : w'.heap[l.b]? = some (.cells cells' ty (0, 0))) (ho : ∀ k, k ≠ l.b → w'.heap[k]? = E.w.heap[k]?)
    (hsz : w'.heap.size = E.w.heap.size) (hos : w'.os = E.w.os) (htape : w'.tape = E.w.tape) (hout : w'.output = E.w.output) (ls' : List SV) (hmap : ls.map SV.size = ls'.map SV.size)
    (hs : Segs (SVC E) ls' cells'.toList) : ∃ E', E'.w = w' ∧ E'.hp = E.hp.set id (.live (.box ls')) ∧ Le E E' ∧ HR w0 S E' := by
  have hlt := h.inside id _ l hb hl
  obtain ⟨le, hr⟩ := h.put id (.box ls') (some l) w' ⟨_, hb, hmap, hl.symm⟩ (fun b hb' _ => ho b (hb' l rfl)) (by omega) hos htape hout
    (fun l' e => by simp only [Option.some.injEq] at e; subst e; exact ⟨by omega, .inr ⟨_, l, hb, hl, rfl⟩⟩)
  exact ⟨_, rfl, rfl, le, hr ⟨l, ty, cells', by simp [Env.put], hc', hs.imp fun _ _ h' => h'.le le⟩⟩

theorem segs_box3 {ls : List SV} {cs : List Value} (h : Segs (SVC E) ls cs) (j n : Nat) :
    ∃ c1 c2 c3, cs = c1 ++ c2 ++ c3 ∧ Segs (SVC E) (ls.take j) c1 ∧ Segs (SVC E) ((ls.drop j).take n) c2 ∧ Segs (SVC E) (ls.drop (j + n)) c3 := by
  have e : ls = ls.take j ++ (((ls.drop j).take n) ++ (ls.drop (j + n))) := by rw [← List.drop_drop, List.take_append_drop, List.take_append_drop]
  rw [e] at h
  obtain ⟨c1, c23, e1, h1, h23⟩ := h.split
  obtain ⟨c2, c3, e2, h2, h3⟩ := h23.split
  exact ⟨c1, c2, c3, by rw [e1, e2, List.append_assoc], h1, h2, h3⟩

theorem storeVar_run {i : TInfo} (hX : X.get T = some i) {v : Value} (hv : v.cells.toList.length = i.t.sz) (a : Addr) (w : World) : (storeVar T a v).run P w = (storeCells a v.cells.toList).run P w := by
  simp only [storeVar, Sem.run_bind, X.size hX, Result.andThen_ok]
  rw [if_neg (by simpa using hv)]

theorem storeF_ok (h : HR w0 S E) {a : SV} {u : Value} (hu : SVR E a u) {val : CV} {v : Value} (hv : CVR E val v) {hp' : List HC} (hr : storeF X T E.hp val a = some hp') :
    ∃ E', (Instr.storeAt T u v).run P E.w = .ok () E'.w ∧ E'.hp = hp' ∧ Le E E' ∧ HR w0 S E' := by
  cases a with
  | bp id j =>
    simp only [storeF] at hr
    split at hr
    · rename_i i ls hX hb
      have hb := boxOf_some hb
      split at hr
      · rename_i l' hl'
        split at hr
        · rename_i hcond
          obtain ⟨hmap, hlive, hsum⟩ := hcond
          simp only [Option.some.injEq] at hr
          subst hr
          obtain ⟨hn, hu⟩ := hu
          obtain ⟨hj, l, hl, rfl⟩ := hu ls hb
          obtain ⟨l0, ty, cells, hl0, hc, hs⟩ := h.root id _ hb
          rw [hl] at hl0; simp only [Option.some.injEq] at hl0; subst hl0
          have hsv := leavesOf_ok h hl' hlive hv
          obtain ⟨c1, c2, c3, e, h1, h2, h3⟩ := segs_box3 hs j l'.length
          have hlen : v.cells.toList.length = i.t.sz := (segs_sumsz hsv).trans hsum
          have hlen2 : c2.length = v.cells.toList.length := by rw [segs_sumsz h2, segs_sumsz hsv, sumsz_map hmap]
          obtain ⟨w', hrun, hw1, hw2, hw3, hw4, hw5, hw6⟩ := run_storeCells (P := P) (o := sumsz (ls.take j)) v.cells.toList 0 cells c1 c2 c3 hc e (by rw [segs_sumsz h1]; omega) hlen2 (live_cells h hlive hsv)
          have hmap' : ls.map SV.size = (ls.take j ++ l' ++ ls.drop (j + l'.length)).map SV.size := by
            rw [List.map_append, List.map_append, hmap, ← List.map_append, ← List.map_append]
            congr 1
            rw [List.append_assoc, ← List.drop_drop, List.take_append_drop, List.take_append_drop]
          obtain ⟨E', he1, he2, he3, he4⟩ := box_write h hb hl hc w' _ hw1 hw2 hw3 hw4 hw5 hw6 (ls.take j ++ l' ++ ls.drop (j + l'.length)) hmap' (by
            simpa using (h1.append hsv).append h3)
          refine ⟨E', ?_, he2, he3, he4⟩
          simp only [Instr.storeAt, Instr.sureAddr, Sem.run_bind, Sem.run_pure, Result.andThen_ok, storeVar_run hX hlen, he1]
          exact hrun
        · cases hr
      · cases hr
    · cases hr
  | ip id j k =>
    simp only [storeF] at hr
    split at hr
    · rename_i i ls hX hb
      have hb := boxOf_some hb
      split at hr
      · rename_i n e xs ha
        split at hr
        · rename_i he
          obtain ⟨rfl, he1, he2⟩ := he
          split at hr
          · rename_i y hy
            simp only [Option.some.injEq] at hr
            subst hr
            obtain ⟨hn, hu⟩ := hu
            obtain ⟨⟨s, hs1, hs2⟩, l, hl, rfl⟩ := hu ls hb
            obtain ⟨l0, ty, cells, hl0, hc, hs⟩ := h.root id _ hb
            rw [hl] at hl0; simp only [Option.some.injEq] at hl0; subst hl0
            obtain ⟨ys, hky, hyc⟩ := toT_ok hy hv
            obtain ⟨c1, c2, c3, e, h1, h2, h3⟩ := segs_box3 hs j 1
            have hone : (ls.drop j).take 1 = [.c (.arr n i.t) xs] := by
              obtain ⟨hlt, e⟩ := List.getElem?_eq_some_iff.1 ha
              rw [← List.getElem_cons_drop hlt, e]; rfl
            rw [hone] at h2
            obtain ⟨d1, d2, e2, h4, h5⟩ := h2
            cases h5
            rw [List.append_nil] at e2
            subst e2
            rw [List.getElem?_map, ha] at hs1
            simp only [Option.map_some, Option.some.injEq, SV.size, Ty.sz, he2, Nat.mul_one] at hs1
            have hka : KC E.w E.F (.arr n i.t) xs c2 := h4
            have hp : (Ty.arr n i.t).part [.ix k] = some (k * i.t.sz + 0, i.t) := by
              simp only [Ty.part]
              rw [if_pos (by omega)]
              cases i.t <;> rfl
            have hset : Ev.setp (.arr n i.t) xs [.ix k] i.t y = some (List.set xs k y) := by
              simp only [Ev.setp, setp_self, Option.map_some]
            obtain ⟨g1, g2, g3, e3, el, el2, hz⟩ := hka.setp hset hky hp
            subst e3
            rw [he2, Nat.mul_one, Nat.add_zero] at el
            have hylen : v.cells.toList.length = i.t.sz := by rw [hyc, hky.len]
            obtain ⟨w', hrun, hw1, hw2, hw3, hw4, hw5, hw6⟩ := run_storeCells (P := P) (o := sumsz (ls.take j) + k) v.cells.toList 0 cells (c1 ++ g1) g2 (g3 ++ c3) hc (by rw [e]; simp) (by
              rw [List.length_append, segs_sumsz h1, el]; rfl) (by rw [el2, hyc]) (by rw [hyc]; exact hky.one)
            have hmap' : ls.map SV.size = (ls.take j ++ [SV.c (.arr n i.t) (List.set xs k y)] ++ ls.drop (j + 1)).map SV.size := by
              have : ls = ls.take j ++ [SV.c (.arr n i.t) xs] ++ ls.drop (j + 1) := by
                rw [← hone, List.append_assoc, ← List.drop_drop, List.take_append_drop, List.take_append_drop]
              conv => lhs; rw [this]
              simp [SV.size]
            obtain ⟨E', he1', he2', he3', he4'⟩ := box_write h hb hl hc w' _ hw1 hw2 hw3 hw4 hw5 hw6 _ hmap' (by
              have h6 : Segs (SVC E) [SV.c (.arr n i.t) (List.set xs k y)] (g1 ++ ys ++ g3) := ⟨_, [], by simp, hz, rfl⟩
              have := (h1.append h6).append h3
              rw [hyc]
              simpa using this)
            refine ⟨E', ?_, he2', he3', he4'⟩
            simp only [Instr.storeAt, Instr.sureAddr, Sem.run_bind, Sem.run_pure, Result.andThen_ok, storeVar_run hX hylen, he1']
            exact hrun
          · cases hr
        · cases hr
      · cases hr
    · cases hr
  | rp id ver t k p =>
    simp only [storeF] at hr
    split at hr
    · rename_i i xs hX hb
      have hb := rowOf_some hb
      split at hr
      · rename_i y hy
        split at hr
        · rename_i x' hx'
          simp only [Option.some.injEq] at hr
          subst hr
          obtain ⟨hn, hu⟩ := hu
          obtain ⟨_, hu⟩ := hu xs ver hb
          obtain ⟨hk, l, hl, d, t', hpart, rfl⟩ := hu rfl
          have hroot := h.root id _ hb
          simp only [RootR, hl] at hroot
          obtain ⟨ty, cells, hc, hcap, hlen, hrow⟩ := hroot
          obtain ⟨ys, hky, hyc⟩ := toT_ok hy hv
          obtain ⟨ec, hec, hca⟩ := hrow k _ (List.getElem?_eq_getElem hk)
          rw [show xs.getD k t.z = xs[k] by rw [List.getD_eq_getElem?_getD, List.getElem?_eq_getElem hk]; rfl] at hx'
          obtain ⟨c1, c2, c3, e, el, el2, hz⟩ := hec.setp hx' hky hpart
          have hylen : v.cells.toList.length = i.t.sz := by rw [hyc, hky.len]
          -- the cells of the block, cut around the part
          have hkcap : (k + 1) * t.sz ≤ l.cap * t.sz := Nat.mul_le_mul_right _ (by omega)
          have hecl : ec.length = t.sz := hec.len
          rw [Nat.succ_mul] at hkcap
          have hsub : ∀ j v, ec[j]? = some v → cells.toList[l.o + k * t.sz + j]? = some v := by
            intro j v hj
            have := hca j v hj
            simp only [World.cell?, hc] at this
            simpa using this
          have hcut : cells.toList = (cells.toList.take (l.o + k * t.sz) ++ c1) ++ c2 ++ (c3 ++ cells.toList.drop (l.o + k * t.sz + t.sz)) := by
            have h1 : cells.toList = cells.toList.take (l.o + k * t.sz) ++ ec ++ cells.toList.drop (l.o + k * t.sz + t.sz) := by
              apply List.ext_getElem?
              intro q
              have hcsz : cells.toList.length = cells.size := Array.length_toList
              by_cases hq1 : q < l.o + k * t.sz
              · rw [List.append_assoc, List.getElem?_append_left (by rw [List.length_take]; omega), List.getElem?_take_of_lt hq1]
              · by_cases hq2 : q < l.o + k * t.sz + t.sz
                · rw [List.getElem?_append_left (by rw [List.length_append, List.length_take]; omega), List.getElem?_append_right (by rw [List.length_take]; omega), List.length_take, Nat.min_eq_left (by omega)]
                  have := hsub (q - (l.o + k * t.sz)) _ (List.getElem?_eq_getElem (by omega))
                  rw [show l.o + k * t.sz + (q - (l.o + k * t.sz)) = q by omega] at this
                  rw [this, List.getElem?_eq_getElem (by omega)]
                · rw [List.getElem?_append_right (by rw [List.length_append, List.length_take]; omega), List.getElem?_drop]
                  congr 1
                  rw [List.length_append, List.length_take]; omega
            rw [e] at h1
            conv => lhs; rw [h1]
            simp
          obtain ⟨w', hrun, hw1, hw2, hw3, hw4, hw5, hw6⟩ := run_storeCells (P := P) (o := l.o + k * t.sz + d) v.cells.toList 0 cells _ c2 _ hc hcut (by
            rw [List.length_append, List.length_take, el, Array.length_toList]; omega) (by rw [el2, hyc]) (by rw [hyc]; exact hky.one)
          have hlt := h.inside id _ l hb hl
          obtain ⟨le, hrr⟩ := h.put id (.row t (xs.set k x') ver) (some l) w' ⟨_, hb, rfl, Nat.le_refl _, fun _ => ⟨by simp, hl.symm⟩⟩ (fun b hb' _ => hw2 b (hb' l rfl)) (by omega) hw4 hw5 hw6
            (fun l' e => by simp only [Option.some.injEq] at e; subst e; exact ⟨by omega, .inr ⟨_, l, hb, hl, rfl⟩⟩)
          refine ⟨_, ?_, rfl, le, hrr ?_⟩
          · simp only [Instr.storeAt, Instr.sureAddr, Sem.run_bind, Sem.run_pure, Result.andThen_ok, storeVar_run hX hylen, Env.put]
            exact hrun
          · simp only [RootR, Env.put, if_true]
            have hsize : ((cells.toList.take (l.o + k * t.sz) ++ c1) ++ v.cells.toList ++ (c3 ++ cells.toList.drop (l.o + k * t.sz + t.sz))).length = cells.size := by
              rw [← Array.length_toList, ]
              conv => rhs; rw [hcut]
              simp only [List.length_append, hyc, el2]
            refine ⟨ty, _, hw1, by rw [List.size_toArray, hsize]; exact hcap, by simpa using hlen, fun q x hx => ?_⟩
            have hcq := cellsAt_heap hw1
            by_cases hqk : q = k
            · subst hqk
              rw [List.getElem?_set_self hk] at hx
              simp only [Option.some.injEq] at hx
              subst hx
              refine ⟨c1 ++ ys ++ c3, KC.move le.F le.Fw hz, ?_⟩
              have e9 : (cells.toList.take (l.o + q * t.sz) ++ c1) ++ v.cells.toList ++ (c3 ++ cells.toList.drop (l.o + q * t.sz + t.sz)) = cells.toList.take (l.o + q * t.sz) ++ (c1 ++ ys ++ c3) ++ cells.toList.drop (l.o + q * t.sz + t.sz) := by rw [hyc]; simp
              rw [e9] at hcq
              have := CellsAt.seg (c1 := cells.toList.take (l.o + q * t.sz)) (c2 := c1 ++ ys ++ c3) (c3 := cells.toList.drop (l.o + q * t.sz + t.sz)) hcq
              rw [List.length_take, Array.length_toList, Nat.min_eq_left (by omega), Nat.zero_add] at this
              exact this
            · rw [List.getElem?_set_ne (Ne.symm hqk)] at hx
              obtain ⟨fc, hfc, hfa⟩ := hrow q x hx
              have hq : q < xs.length := (List.getElem?_eq_some_iff.1 hx).1
              refine ⟨fc, KC.move le.F le.Fw hfc, fun j v' hj => ?_⟩
              have hfl : fc.length = t.sz := hfc.len
              have hjl : j < t.sz := by rw [← hfl]; exact (List.getElem?_eq_some_iff.1 hj).1
              have h0 := hfa j v' hj
              simp only [World.cell?, hc] at h0
              simp only [Option.isSome_none, Bool.false_eq_true, if_false] at h0
              have hold : cells.toList[l.o + q * t.sz + j]? = some v' := by simpa using h0
              have := hcq (l.o + q * t.sz + j) v' (by
                rw [List.toList_toArray]
                have hcl : (cells.toList.take (l.o + k * t.sz)).length = l.o + k * t.sz := by rw [List.length_take, Array.length_toList]; omega
                rcases Nat.lt_or_gt_of_ne hqk with hlt' | hgt
                · have hm : (q + 1) * t.sz ≤ k * t.sz := Nat.mul_le_mul_right _ hlt'
                  rw [Nat.succ_mul] at hm
                  rw [List.append_assoc, List.append_assoc, List.getElem?_append_left (by omega), List.getElem?_take_of_lt (by omega)]
                  exact hold
                · have hm : (k + 1) * t.sz ≤ q * t.sz := Nat.mul_le_mul_right _ hgt
                  rw [Nat.succ_mul] at hm
                  have hcs : (c1 ++ v.cells.toList ++ c3).length = t.sz := by rw [← hecl, e]; simp only [List.length_append, el2, hyc]
                  rw [show (cells.toList.take (l.o + k * t.sz) ++ c1) ++ v.cells.toList ++ (c3 ++ cells.toList.drop (l.o + k * t.sz + t.sz)) = (cells.toList.take (l.o + k * t.sz) ++ (c1 ++ v.cells.toList ++ c3)) ++ cells.toList.drop (l.o + k * t.sz + t.sz) by simp]
                  rw [List.getElem?_append_right (by rw [List.length_append, hcl, hcs]; omega), List.length_append, hcl, hcs, List.getElem?_drop, ← hold]
                  congr 1
                  omega)
              simpa using this
        · cases hr
      · cases hr
    · cases hr
  | _ => simp [storeF] at hr
end
end Go.Proofs.Ytgkjgpiggjjmpaa.Ev
