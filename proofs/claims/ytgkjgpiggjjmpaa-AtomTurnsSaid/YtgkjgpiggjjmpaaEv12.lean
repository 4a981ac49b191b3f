/- Lemmas for the claim: Unary, conversions, fields, building. (no condition.) -/
import Derived.Test.YtgkjgpiggjjmpaaEv11
import Derived.Laws.Tables
import Derived.Laws.BytesArg
/-! Unary, conversions, fields, building. -/
namespace Go.Proofs.Ytgkjgpiggjjmpaa.Ev
open Go
set_option linter.unusedVariables false

def convF {P : Program} (X : Tbl P) (src dst : TypeId) (hp : List HC) : SV → Option SV
  | .c (.int k) x => match X.get dst with
    | some i => match i.t with
      | .int k' => some (.c (.int k') (k'.wrap x))
      | _ => none
    | none => none
  | .c .str x => match X.get src, X.get dst with
    | some i, some j => if i.t = .str ∧ j.t = .str then some (.c .str x) else none
    | _, _ => none
  | a => match X.get src, X.get dst with
    | some i, some j => if i.t = .sl (.int .u8) ∧ j.t = .str then (rowVal hp (.int .u8) a).map fun xs => .c .str (strOfNums xs) else none
    | _, _ => none

def fieldF {P : Program} (X : Tbl P) (T : TypeId) (f : Nat) : CV → Option CV
  | .agg l => match X.get T with
    | some i => match i.flds[f]? with
      | some (o, u) => match X.get u with
        | some j => if i.t.isPair = true ∧ sumsz (l.take (leafStart i.t f)) = o then
            (if j.t.isPair then (if sumsz ((l.drop (leafStart i.t f)).take (nleaves j.t)) = j.t.sz then some (.agg ((l.drop (leafStart i.t f)).take (nleaves j.t))) else none)
             else match l[leafStart i.t f]? with
              | some a => asT j.t a
              | none => none) else none
        | none => none
      | none => none
    | none => none
  | .one (.c t x) => match X.get T with
    | some i => if t = i.t ∧ t.isPair = true then (match i.flds[f]? with
      | some (o, u) => match X.get u, getp t x (fpath f) with
        | some j, some a => asT j.t a
        | _, _ => none
      | none => none) else none
    | none => none
  | _ => none

def bAt (s : ByteArray) (n : Nat) : Int := ((s.data.toList.getD n 0).toNat : Int)

def indexF {P : Program} (X : Tbl P) (T : TypeId) (n : Int) : CV → Option (Prop × SV)
  | .one (.c (.arr m e) xs) => match X.get T with
    | some i => if i.t = .arr m e ∧ e.isAgg = false then some (0 ≤ n ∧ n < (m : Int), .c e (List.getD xs n.toNat e.z)) else none
    | none => none
  | .one (.c .str s) => match X.get T with
    | some i => if i.t = .str then some (0 ≤ n ∧ n < (ByteArray.size s : Int), .c (.int .u8) (bAt s n.toNat)) else none
    | none => none
  | _ => none

def bld (get : TypeId → Option TInfo) (t : Ty) (flds : List (Nat × TypeId)) (hp : List HC) : List (Nat × CV) → List SV → Option (List SV)
  | [], ls => some ls
  | (f, val) :: rest, ls => match flds[f]? with
    | some (o, u) => match get u with
      | some j => match leavesOf j.t val with
        | some l' => if o = sumsz (ls.take (leafStart t f)) ∧ l'.map SV.size = ((ls.drop (leafStart t f)).take l'.length).map SV.size ∧ sumsz l' = j.t.sz ∧ l'.all (isLive hp) = true then
            bld get t flds hp rest (ls.take (leafStart t f) ++ l' ++ ls.drop (leafStart t f + l'.length)) else none
        | none => none
      | none => none
    | none => none

/-- Elements that are told one behind the other, from k on. -/
def elems (t : Ty) : Nat → List (Nat × CV) → Option (List t.D)
  | _, [] => some []
  | k, (j, a) :: rest => if j = k then (match toT t a, elems t (k + 1) rest with
    | some x, some xs => some (x :: xs)
    | _, _ => none) else none

section
variable {P : Program} {X : Tbl P} {w0 : World} {S : Who} {E : Env} {T : TypeId}

theorem unF_ok {op : UnOp} {a r : SV} {v : Value} (h : unF op a = some r) (hv : SVR E a v) : ∃ z, (Op.unary op v).run P E.w = .ok z E.w ∧ CVR E (.one r) z := by
  cases a with
  | c t x =>
    cases t with
    | int k =>
      rw [oneInt hv]
      cases op <;> simp only [unF, Option.some.injEq, reduceCtorEq] at h <;> subst h <;> (refine ⟨_, ?_, isInt⟩) <;> simp [Op.unary, Op.intArith, Op.intBits, bitI]
    | bool =>
      rw [oneBool hv]
      cases op <;> simp only [unF, Option.some.injEq, reduceCtorEq] at h
      subst h
      exact ⟨_, by simp [Op.unary], isBool⟩
    | _ => simp [unF] at h
  | _ => simp [unF] at h

theorem bytesOf_segs {w : World} {F : Nat → Prop} : ∀ {xs : List Int} {cs : List Value}, Segs (KC w F (.int .u8)) xs cs → cs = xs.map (Value.int .u8)
  | [], _, h => by cases h; rfl
  | x :: xs, _, ⟨c1, c2, e, h1, h2⟩ => by
    rw [e, show c1 = [.int .u8 x] from h1, bytesOf_segs h2]; rfl

theorem convF_ok (h : HR w0 S E) {src dst : TypeId} {a r : SV} {v : Value} (hr : convF X src dst E.hp a = some r) (hs : ∃ d, P.underlying src = some d) (hv : SVR E a v) : ∃ z, (convert src dst v).run P E.w = .ok z E.w ∧ CVR E (.one r) z := by
  obtain ⟨d, hd⟩ := hs
  have bytes : ∀ {b : SV}, SVR E b v → (match X.get src, X.get dst with | some i, some j => if i.t = .sl (.int .u8) ∧ j.t = .str then (rowVal E.hp (.int .u8) b).map fun xs => SV.c .str (strOfNums xs) else none | _, _ => none) = some r →
      ∃ z, (convert src dst v).run P E.w = .ok z E.w ∧ CVR E (.one r) z := by
    intro b hb hr
    split at hr
    · rename_i i j hX hY
      split at hr
      · rename_i hc
        obtain ⟨hc1, hc2⟩ := hc
        simp only [Option.map_eq_some_iff] at hr
        obtain ⟨xs, hxs, rfl⟩ := hr
        obtain ⟨hu, e, he, het, _⟩ := X.slice hX hc1
        have hue := (X.ok _ e he).und
        rw [het] at hue
        have huj := (X.ok _ j hY).und
        rw [hc2] at huj
        obtain ⟨A, c, cs, rfl, hsg, hA⟩ := rowVal_ok h hb hxs
        have hcs := bytesOf_segs hsg
        by_cases hne : (xs : List Int) = []
        · subst hne
          have e1 : strOfNums [] = ByteArray.empty := rfl
          cases A with
          | none => exact ⟨_, run_convert_bytes_nil E.w src _ hu hue _ _ dst huj, by rw [e1]; exact isStr⟩
          | some ad =>
            refine ⟨.string (strOfNums []), ?_, isStr⟩
            simp only [convert, Sem.run_bind, run_underlying hu, run_underlying huj, Result.andThen_ok]
            simp [run_underlying hue, Conv.bytesToString, loadCells, loadCellsFrom]
            rfl
        · obtain ⟨b', o, rfl, hc, _⟩ := hA hne
          refine ⟨_, run_convert_bytes_arg E.w src _ hu hue b' o _ c xs rfl (fun i hi => ?_) dst huj, isStr⟩
          refine hc i _ ?_
          have hi' : i < (xs : List Int).length := hi
          rw [hcs, List.getElem?_map, List.getElem?_eq_getElem hi', List.getD_eq_getElem?_getD, List.getElem?_eq_getElem hi']
          rfl
      · cases hr
    · cases hr
  cases a with
  | c t x =>
    cases t with
    | int k =>
      simp only [convF] at hr
      split at hr
      · rename_i i hX
        split at hr
        · rename_i k' ht
          simp only [Option.some.injEq] at hr
          subst hr
          rw [oneInt hv]
          have hu := (X.ok _ i hX).und
          rw [ht] at hu
          exact ⟨_, by simp only [convert, Sem.run_bind, run_underlying hd, run_underlying hu, Result.andThen_ok]; rfl, isInt⟩
        · cases hr
      · cases hr
    | str =>
      simp only [convF] at hr
      split at hr
      · rename_i i j hX hY
        split at hr
        · rename_i hc
          obtain ⟨hc1, hc2⟩ := hc
          simp only [Option.some.injEq] at hr
          subst hr
          rw [oneStr hv]
          have hu := (X.ok _ i hX).und
          rw [hc1] at hu
          have hu2 := (X.ok _ j hY).und
          rw [hc2] at hu2
          exact ⟨_, by simp only [convert, Sem.run_bind, run_underlying hu, run_underlying hu2, Result.andThen_ok]; rfl, isStr⟩
        · cases hr
      · cases hr
    | _ => exact bytes hv (by simpa [convF] using hr)
  | _ => exact bytes hv (by simpa [convF] using hr)

theorem part_run {j : TInfo} {u : TypeId} (hX : X.get u = some j) {c1 c2 c3 : List Value} (hl : c2.length = j.t.sz) (hs : j.t.isAgg = false → c2.length = 1) (w : World) : (part u (c1 ++ c2 ++ c3).toArray c1.length).run P w = .ok (mkv j.t c2) w := by
  simp only [part, Sem.run_bind, X.isAgg hX, Result.andThen_ok, mkv]
  cases e : j.t.isAgg with
  | true =>
    simp only [if_true, Sem.run_bind, X.size hX, Result.andThen_ok, Sem.run_pure, ← hl]
    congr 2
    apply Array.ext'
    simp
  | false =>
    match c2, hs e with
    | [c], _ => simp

theorem fieldF_ok {f : Nat} {a r : CV} {v : Value} (hr : fieldF X T f a = some r) (hv : CVR E a v) : ∃ z, (Instr.field T v f).run P E.w = .ok z E.w ∧ CVR E r z := by
  cases a with
  | agg l =>
    simp only [fieldF] at hr
    split at hr
    · rename_i i hX
      split at hr
      · rename_i o u hf
        split at hr
        · rename_i j hY
          split at hr
          · rename_i hc
            obtain ⟨hp, hsz⟩ := hc
            obtain ⟨fs, fd, j', h1, h2, h3, h4, h5, h6, h7⟩ := X.field hX hp hf
            rw [hY] at h5
            simp only [Option.some.injEq] at h5
            subst h5 h3 h4
            obtain ⟨cs, hs, rfl⟩ := hv
            simp only [Instr.field, Sem.run_bind, run_underlying h1, Result.andThen_ok, h2, asAgg, Sem.run_pure]
            split at hr
            · rename_i hjp
              split at hr
              · rename_i hj
                simp only [Option.some.injEq] at hr
                subst hr
                obtain ⟨c1, c2, c3, rfl, h8, h9⟩ := segs_box hs (leafStart i.t f) (nleaves j.t)
                have hagg : j.t.isAgg = true := by revert hjp; cases j.t <;> simp [Ty.isPair, Ty.isAgg]
                rw [← hsz, ← h8]
                exact ⟨_, part_run hY ((segs_sumsz h9).trans hj) (fun h => by rw [hagg] at h; cases h) E.w, c2, h9, by simp [mkv, hagg]⟩
              · cases hr
            · split at hr
              · rename_i a ha
                obtain ⟨c1, c2, c3, rfl, h8, h9⟩ := segs_box hs (leafStart i.t f) 1
                rw [show (l.drop (leafStart i.t f)).take 1 = [a] by
                  obtain ⟨hlt, e⟩ := List.getElem?_eq_some_iff.1 ha
                  rw [← List.getElem_cons_drop hlt, e]; rfl] at h9
                obtain ⟨d1, d2, e2, h10, h11⟩ := h9
                cases h11
                rw [List.append_nil] at e2
                subst e2
                rw [← hsz, ← h8]
                cases a with
                | c t x =>
                  simp only [asT] at hr
                  split at hr
                  · rename_i e
                    simp only [Option.some.injEq] at hr
                    subst hr
                    subst e
                    have hk : KC E.w E.F j.t x c2 := h10
                    exact ⟨_, part_run hY hk.len (fun h => by rw [hk.len, Ty.one_of h]) E.w, c2, hk, rfl⟩
                  · cases hr
                | _ =>
                  simp only [asT] at hr
                  split at hr
                  · cases hr
                  · rename_i hna
                    simp only [Option.some.injEq] at hr
                    subst hr
                    obtain ⟨v, rfl, hv⟩ := h10
                    have hna : j.t.isAgg = false := by simpa using hna
                    exact ⟨_, part_run hY (c2 := [v]) (Ty.one_of hna).symm (fun _ => rfl) E.w, by rw [mkv_one hna]; exact hv⟩
              · cases hr
          · cases hr
        · cases hr
      · cases hr
    · cases hr
  | one b =>
    cases b with
    | c t x =>
      simp only [fieldF] at hr
      split at hr
      · rename_i i hX
        split at hr
        · rename_i hc
          obtain ⟨rfl, hp⟩ := hc
          split at hr
          · rename_i o u hf
            split at hr
            · rename_i j a hY hg
              obtain ⟨fs, fd, j', h1, h2, h3, h4, h5, h6, h7⟩ := X.field hX hp hf
              rw [hY] at h5
              simp only [Option.some.injEq] at h5
              subst h5 h3 h4
              obtain ⟨cs, hk, rfl⟩ := hv
              have hagg : i.t.isAgg = true := by revert hp; cases i.t <;> simp [Ty.isPair, Ty.isAgg]
              obtain ⟨y, c1, c2, c3, rfl, rfl, el, hy⟩ := hk.getp hg h6
              simp only [Instr.field, Sem.run_bind, run_underlying h1, Result.andThen_ok, h2, mkv, hagg, if_true, asAgg, Sem.run_pure]
              rw [← el]
              simp only [asT] at hr
              simp only [if_true, Option.some.injEq] at hr
              subst hr
              exact ⟨_, part_run hY hy.len (fun h => by rw [hy.len, Ty.one_of h]) E.w, c2, hy, rfl⟩
            · cases hr
          · cases hr
        · cases hr
      · cases hr
    | _ => simp [fieldF] at hr
  | fn f caps => simp [fieldF] at hr

theorem indexF_ok {a : CV} {n : Int} {k : IntKind} {p : Prop} {r : SV} {v : Value} (hr : indexF X T n a = some (p, r)) (hp : p) (hv : CVR E a v) : ∃ z, (Instr.index T v (.int k n)).run P E.w = .ok z E.w ∧ CVR E (.one r) z := by
  cases a with
  | one b =>
    cases b with
    | c t x =>
      cases t with
      | arr m e =>
        simp only [indexF] at hr
        split at hr
        · rename_i i hX
          split at hr
          · rename_i hc
            obtain ⟨ht, hna⟩ := hc
            simp only [Option.some.injEq, Prod.mk.injEq] at hr
            obtain ⟨rfl, rfl⟩ := hr
            obtain ⟨h0, h1⟩ := hp
            have hu := (X.ok _ i hX).und
            rw [ht] at hu
            obtain ⟨hu, j, hj, rfl, hs⟩ := hu
            obtain ⟨cs, hk, rfl⟩ := hv
            have hpt : (Ty.arr m j.t).part [.ix n.toNat] = some (n.toNat * j.t.sz + 0, j.t) := by
              simp only [Ty.part]; rw [if_pos (by omega)]; cases j.t <;> rfl
            have hg : Ev.getp (.arr m j.t) x [.ix n.toNat] = some (.c j.t (List.getD x n.toNat j.t.z)) := by simp only [Ev.getp]
            obtain ⟨y, c1, c2, c3, ea, rfl, el, hy⟩ := hk.getp hg hpt
            simp only [SV.c.injEq, heq_eq_eq, true_and] at ea
            subst ea
            simp only [Instr.index, Sem.run_bind, run_asIntOf, Result.andThen_ok, run_underlying hu, mkv, Ty.isAgg, if_true, h0, h1, and_self, X.size hj, Sem.run_ite]
            rw [← Nat.add_zero (n.toNat * j.t.sz), ← el]
            exact ⟨_, part_run hj hy.len (fun h => by rw [hy.len, Ty.one_of h]) E.w, c2, hy, rfl⟩
          · cases hr
        · cases hr
      | str =>
        simp only [indexF] at hr
        split at hr
        · rename_i i hX
          split at hr
          · rename_i ht
            simp only [Option.some.injEq, Prod.mk.injEq] at hr
            obtain ⟨rfl, rfl⟩ := hr
            obtain ⟨h0, h1⟩ := hp
            have hu := (X.ok _ i hX).und
            rw [ht] at hu
            rw [oneStr hv]
            have hlt : n.toNat < (x : ByteArray).size := by omega
            have hg : (x : ByteArray)[n.toNat]? = some ((x : ByteArray)[n.toNat]) := getElem?_pos (show ByteArray from x) n.toNat hlt
            refine ⟨_, by simp only [Instr.index, Sem.run_bind, run_asIntOf, Result.andThen_ok, run_underlying hu, h0, if_true, hg, Sem.run_pure]; rfl, _, rfl, ?_⟩
            simp only [mkv, Ty.isAgg, Bool.false_eq_true, if_false, List.headD_cons, bAt, Value.int.injEq, true_and]
            have : (x : ByteArray).data.toList.getD n.toNat 0 = (x : ByteArray)[n.toNat] := by
              rw [List.getD_eq_getElem?_getD, List.getElem?_eq_getElem (by simpa using hlt)]
              simp
              rfl
            rw [this]
          · cases hr
        · cases hr
      | _ => simp [indexF] at hr
    | _ => simp [indexF] at hr
  | _ => simp [indexF] at hr
end
end Go.Proofs.Ytgkjgpiggjjmpaa.Ev
