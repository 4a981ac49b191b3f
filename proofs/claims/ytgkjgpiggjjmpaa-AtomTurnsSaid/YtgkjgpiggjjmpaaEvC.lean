/- Lemmas for the claim: From what a law's statement reads to values, and back. (no condition.) -/
import Derived.Test.YtgkjgpiggjjmpaaEvM
import Derived.ProofKit
import Derived.OpenShut
import Derived.ChangeOld
import Derived.Below
import Derived.Carry
import Derived.SizedLaws
/-! From what a law's statement reads to values, and back. -/
namespace Go.Proofs.Ytgkjgpiggjjmpaa.Ev
open Go Go.ChangeShapes Go.WideShapes Go.ChangeAt Go.RowKit
set_option linter.unusedVariables false

/-- A type, or what is left of a struct's fields. -/
abbrev TF := TypeId ⊕ (List Field × Nat)
def TF.flds (P : Program) (sz : Nat) : TF → Option (List Field × Nat)
  | .inl t => match P.underlying t with
    | some (.struct fs) => if P.cellsOf t = sz then some (fs.toList, 0) else none
    | _ => none
  | .inr p => some p
def tyB (P : Program) : Ty → TF → Bool
  | .int k, .inl t => match P.underlying t with | some (.int k') => decide (k' = k) | _ => false
  | .bool, .inl t => match P.underlying t with | some .bool => true | _ => false
  | .str, .inl t => match P.underlying t with | some .string => true | _ => false
  | .unit, s => match s.flds P 0 with | some ([], _) => true | _ => false
  | .pair a b, s => match s.flds P (a.sz + b.sz) with
    | some (f :: l, off) => decide (f.offset = off) && decide (P.cellsOf f.type = a.sz) && tyB P a (.inl f.type) && tyB P b (.inr (l, off + a.sz))
    | _ => false
  | .arr n e, .inl t => match P.underlying t with | some (.array m u) => decide (m = n) && decide (P.cellsOf u = e.sz) && decide (P.cellsOf t = n * e.sz) && tyB P e (.inl u) | _ => false
  | .sl e, .inl t => match P.underlying t with | some (.slice u) => decide (P.cellsOf u = e.sz) && decide (0 < e.sz) && decide (0 < P.bytesOf u) && tyB P e (.inl u) | _ => false
  | _, _ => false

/-- Within what its kinds hold. -/
def Fits : (t : Ty) → t.D → Prop
  | .int k, x => k.min ≤ (x : Int) ∧ (x : Int) ≤ k.max
  | .str, x => (x : ByteArray).size ≤ reachBytes
  | .pair a b, x => Fits a x.1 ∧ Fits b x.2
  | .arr _ e, xs => ∀ x ∈ (xs : List e.D), Fits e x
  | .sl e, xs => ∀ x ∈ (xs : List e.D), Fits e x
  | _, _ => True

section
variable {H : Type} {enc : TypeId × Value → H} {P : Program} {w : World}

def Rd (enc : TypeId × Value → H) (P : Program) (w : World) : TF → List Value → Prop
  | .inl t, cs => ∃ fuel x, DataW.trod enc P w 0 (fun _ => true) true fuel t cs = some x ∧ ∀ n ∈ x.1.weights P t, n ≤ reachBytes
  | .inr (l, off), cs => ∃ (full : List Value) (xs : List (DataW H × List MemPlace)) (n : Nat), cs = full.drop off ∧ xs.length = l.length ∧
      (∀ (i : Nat) (f : Field), l[i]? = some f → DataW.trod enc P w 0 (fun _ => true) true n f.type ((full.drop f.offset).take (P.cellsOf f.type)) = xs[i]?) ∧
      ∀ m ∈ DataW.weightsEach P (l.map (·.type)) (xs.map (·.1)), m ≤ reachBytes

theorem Rd.flds {s : TF} {cs : List Value} {sz : Nat} {p : List Field × Nat} (hp : s.flds P sz = some p) (h : Rd enc P w s cs) : Rd enc P w (.inr p) cs := by
  match s, hp with
  | .inr q, hp => cases hp; exact h
  | .inl t, hp =>
    simp only [TF.flds] at hp
    split at hp
    · rename_i fs ht
      split at hp
      · cases hp
        obtain ⟨fuel, x, hx, hw⟩ := h
        obtain ⟨xs, n, rfl, rfl, hl, hlen, hf⟩ := DataW.trod_struct ht hx
        refine ⟨cs, xs, n, rfl, by simpa using hlen, fun i f hi => hf i f (by simpa using hi), fun m hm => hw m ?_⟩
        simp only [DataW.weights, ht]
        exact hm
      · cases hp
    · cases hp

theorem weightsAll_mem {e : TypeId} : ∀ {l : List (DataW H)} {d : DataW H} {n : Nat}, d ∈ l → n ∈ d.weights P e → n ∈ DataW.weightsAll P e l
  | a :: l, d, n, hd, hn => by
    simp only [DataW.weightsAll, List.mem_append]
    rcases List.mem_cons.1 hd with rfl | hd
    · exact .inl hn
    · exact .inr (weightsAll_mem hd hn)

theorem cell?_lt {a : Addr} {v : Value} (h : w.cell? a = some v) : a.block < w.heap.size := by
  refine Classical.byContradiction fun hc => ?_
  have : w.heap[a.block]? = none := Array.getElem?_eq_none (by omega)
  unfold World.cell? at h
  simp [this] at h

theorem segs_mk {α : Type} {R : α → List Value → Prop} {s : Nat} : ∀ (n : Nat) (cs : List Value), cs.length = n * s → (∀ i, i < n → ∃ x, R x ((cs.drop (i * s)).take s)) → ∃ xs : List α, xs.length = n ∧ Segs R xs cs
  | 0, cs, hl, _ => ⟨[], rfl, List.length_eq_zero_iff.1 (by omega)⟩
  | n + 1, cs, hl, h => by
    obtain ⟨x, hx⟩ := h 0 (by omega)
    rw [Nat.succ_mul] at hl
    obtain ⟨xs, e, hs⟩ := segs_mk (R := R) (s := s) n (cs.drop s) (by rw [List.length_drop]; omega) (fun i hi => by
      obtain ⟨y, hy⟩ := h (i + 1) (by omega)
      rw [List.drop_drop, show s + i * s = (i + 1) * s by rw [Nat.succ_mul]; omega]
      exact ⟨y, hy⟩)
    refine ⟨x :: xs, by simp [e], cs.take s, cs.drop s, (List.take_append_drop _ _).symm, ?_, hs⟩
    rwa [Nat.zero_mul, List.drop_zero] at hx

theorem segs_and {α : Type} {R : α → List Value → Prop} {Q : α → Prop} : ∀ {xs : List α} {cs : List Value}, Segs (fun x c => R x c ∧ Q x) xs cs → Segs R xs cs ∧ ∀ x ∈ xs, Q x
  | [], _, h => ⟨h, fun _ h => by cases h⟩
  | a :: l, _, ⟨c1, c2, e, h1, h2⟩ => by
    obtain ⟨k1, k2⟩ := segs_and h2
    refine ⟨⟨c1, c2, e, h1.1, k1⟩, fun x hx => ?_⟩
    rcases List.mem_cons.1 hx with rfl | hx
    · exact h1.2
    · exact k2 x hx

theorem list_mk {α : Type} {R : Nat → α → Prop} : ∀ (n : Nat), (∀ i, i < n → ∃ x, R i x) → ∃ xs : List α, xs.length = n ∧ ∀ i x, xs[i]? = some x → R i x
  | 0, _ => ⟨[], rfl, fun i x h => by simp at h⟩
  | n + 1, h => by
    obtain ⟨xs, e, hx⟩ := list_mk n (fun i hi => h i (by omega))
    obtain ⟨x, hx'⟩ := h n (by omega)
    refine ⟨xs ++ [x], by simp [e], fun i y hy => ?_⟩
    by_cases hi : i < n
    · rw [List.getElem?_append_left (by omega)] at hy; exact hx i y hy
    · rw [List.getElem?_append_right (by omega)] at hy
      by_cases h2 : i = n
      · subst h2; rw [e, Nat.sub_self] at hy; cases hy; exact hx'
      · rw [show i - xs.length = (i - n - 1) + 1 by omega] at hy; simp at hy

/-- What is read is a value of its type, in memory as it stands. -/
theorem open_ty : ∀ (T : Ty) (s : TF), tyB P T s = true → ∀ cs : List Value, cs.length = T.sz → Rd enc P w s cs → ∃ y : T.D, KC w (· < w.heap.size) T y cs ∧ Fits T y
  | .int k, .inl t, hs, cs, hl, hr => by
    obtain ⟨fuel, x, hx, hw⟩ := hr
    simp only [tyB] at hs
    split at hs
    · rename_i k' ht
      have hs := of_decide_eq_true hs
      subst hs
      obtain ⟨n, rfl, rfl, hwf⟩ := DataW.trod_int ht hx
      refine ⟨n, rfl, ?_⟩
      simp only [Lit.wf, Bool.and_eq_true, decide_eq_true_eq] at hwf
      exact hwf
    · cases hs
  | .bool, .inl t, hs, cs, hl, hr => by
    obtain ⟨fuel, x, hx, hw⟩ := hr
    simp only [tyB] at hs
    split at hs
    · rename_i ht
      obtain ⟨n, rfl, rfl⟩ := DataW.trod_bool ht hx
      exact ⟨n, rfl, trivial⟩
    · cases hs
  | .str, .inl t, hs, cs, hl, hr => by
    obtain ⟨fuel, x, hx, hw⟩ := hr
    simp only [tyB] at hs
    split at hs
    · rename_i ht
      obtain ⟨n, rfl, rfl, _⟩ := DataW.trod_string ht hx
      refine ⟨n, rfl, ?_⟩
      have := hw n.data.toList.length (by simp only [DataW.weights, List.mem_singleton])
      rw [Array.length_toList] at this
      exact this
    · cases hs
  | .unit, s, hs, cs, hl, hr => ⟨(), List.length_eq_zero_iff.1 hl, trivial⟩
  | .pair a b, s, hs, cs, hl, hr => by
    simp only [tyB] at hs
    split at hs
    · rename_i f l off hp
      simp only [Bool.and_eq_true, decide_eq_true_eq] at hs
      obtain ⟨⟨⟨h1, h2⟩, h3⟩, h4⟩ := hs
      obtain ⟨full, xs, n, rfl, hlen, hf, hw⟩ := Rd.flds hp hr
      match xs, hlen with
      | x0 :: xs, hlen =>
        have h0 := hf 0 f rfl
        simp only [Ty.sz] at hl
        rw [h1, h2] at h0
        simp only [List.map_cons, DataW.weightsEach, List.mem_append] at hw
        obtain ⟨y1, k1, f1⟩ := open_ty a (.inl f.type) h3 ((full.drop off).take a.sz) (by rw [List.length_take]; omega) ⟨n, x0, by simpa using h0, fun m hm => hw m (.inl hm)⟩
        obtain ⟨y2, k2, f2⟩ := open_ty b (.inr (l, off + a.sz)) h4 (full.drop (off + a.sz)) (by simp only [List.length_drop] at hl ⊢; omega)
          ⟨full, xs, n, rfl, by simpa using hlen, fun i g hi => by have := hf (i + 1) g (by simpa using hi); simpa using this, fun m hm => hw m (.inr hm)⟩
        refine ⟨(y1, y2), ⟨_, _, ?_, k1, k2⟩, f1, f2⟩
        rw [← List.drop_drop, List.take_append_drop]
    · cases hs
  | .arr n e, .inl t, hs, cs, hl, hr => by
    obtain ⟨fuel, x, hx, hw⟩ := hr
    simp only [tyB] at hs
    split at hs
    · rename_i m u ht
      simp only [Bool.and_eq_true, decide_eq_true_eq] at hs
      obtain ⟨⟨⟨rfl, h2⟩, _⟩, h3⟩ := hs
      obtain ⟨xs, k, rfl, rfl, hlen, hxl, hf⟩ := DataW.trod_array ht hx
      simp only [DataW.weights, ht] at hw
      simp only [Ty.sz] at hl
      obtain ⟨ys, hy, hss⟩ := segs_mk (R := fun y c => KC w (· < w.heap.size) e y c ∧ Fits e y) m cs hl (fun i hi => by
        have := hf i hi
        rw [h2, List.getElem?_eq_getElem (by omega)] at this
        have hle : (i + 1) * e.sz ≤ m * e.sz := Nat.mul_le_mul_right _ hi
        rw [Nat.succ_mul] at hle
        exact open_ty e (.inl u) h3 _ (by rw [List.length_take, List.length_drop]; omega) ⟨k, _, this, fun q hq => hw q (weightsAll_mem (List.mem_map.2 ⟨_, List.getElem_mem _, rfl⟩) hq)⟩)
      obtain ⟨a1, a2⟩ := segs_and hss
      exact ⟨ys, ⟨hy, a1⟩, a2⟩
    · cases hs
  | .sl e, .inl t, hs, cs, hl, hr => by
    obtain ⟨fuel, x, hx, hw⟩ := hr
    simp only [tyB] at hs
    split at hs
    · rename_i u ht
      simp only [Bool.and_eq_true, decide_eq_true_eq] at hs
      obtain ⟨⟨⟨h1, h2⟩, h3⟩, h4⟩ := hs
      rcases DataW.trod_slice ht hx with ⟨rfl, rfl⟩ | ⟨A, len, cap, elems, rest, n, rfl, rfl, rfl, hb, hlc, hm, hel, hget, _, _⟩
      · exact ⟨[], ⟨none, 0, rfl, ⟨Nat.le_refl _, by simp⟩, fun h => absurd rfl h⟩, fun _ h => by cases h⟩
      · simp only [DataW.weights, ht] at hw
        have hlen : (elems.map (·.1)).length + (rest.map (·.1)).length ≤ reachBytes := by
          have := hw _ (List.mem_cons_self)
          exact Nat.le_trans (Nat.le_mul_of_pos_right _ h3) this
        simp only [List.length_map] at hlen
        have hsp : 0 < len → A.spot = none := fun h0 => by
          have := hget 0 h0
          rw [h1, List.getElem?_eq_getElem (by omega)] at this
          obtain ⟨ec, hc, htr⟩ := Option.bind_eq_some_iff.1 this
          obtain ⟨_, hl1, hc1⟩ := World.cells?_some hc
          have c0 := hc1 0 h2
          rw [List.getElem?_eq_getElem (by omega)] at c0
          have := World.cell?_spot c0
          simpa only [Addr.add, ↓reduceIte, Nat.zero_mul] using this
        have hone : ∀ i, i < len → ∃ y : e.D, Fits e y ∧ A.spot = none ∧ A.block < w.heap.size ∧ ∃ ec, KC w (· < w.heap.size) e y ec ∧ CellsAt w A.block (A.off + i * e.sz) ec := fun i hi => by
          have hsp := hsp (by omega)
          have := hget i hi
          rw [h1, List.getElem?_eq_getElem (by omega)] at this
          obtain ⟨ec, hc, htr⟩ := Option.bind_eq_some_iff.1 this
          obtain ⟨_, hl1, hc1⟩ := World.cells?_some hc
          obtain ⟨y, k1, k2⟩ := open_ty e (.inl u) h4 ec hl1 ⟨n, _, htr, fun q hq => hw q (List.mem_cons_of_mem _ (List.mem_append_left _ (weightsAll_mem (List.mem_map.2 ⟨_, List.getElem_mem (by omega), rfl⟩) hq)))⟩
          have c0 := hc1 0 h2
          rw [List.getElem?_eq_getElem (by omega)] at c0
          obtain ⟨b, o, sp⟩ := A
          simp only at hsp
          subst hsp
          refine ⟨y, k2, rfl, ?_, ec, k1, fun j v hj => ?_⟩
          · have := cell?_lt c0
            simp only [Addr.add, ↓reduceIte] at this
            split at this <;> first | exact this | simpa using this
          · have hjl : j < e.sz := by
              rw [← hl1]
              exact (List.getElem?_eq_some_iff.1 hj).1
            have := hc1 j hjl
            rw [hj] at this
            rw [add_plain, add_plain] at this
            exact this
        obtain ⟨ys, hy, hys⟩ := list_mk len hone
        refine ⟨ys, ⟨some A, cap, by rw [hy], ⟨by omega, ?_⟩, fun hne => ?_⟩, fun y hy' => ?_⟩
        · have : reachBytes ≤ 140737488355328 := by decide
          omega
        · obtain ⟨y, l, e1⟩ := List.exists_cons_of_ne_nil hne
          obtain ⟨_, hsp, hlt, _⟩ := hys 0 y (by rw [e1]; rfl)
          obtain ⟨b, o, sp⟩ := A
          simp only at hsp
          subst hsp
          exact ⟨b, o, rfl, hlt, fun i x hi => (hys i x hi).2.2.2⟩
        · obtain ⟨i, hi⟩ := List.getElem?_of_mem hy'
          exact (hys i y hi).1
    · cases hs

theorem trodAll_lens {W : World} {b : Nat} {sp : Nat → Bool} {hd : Bool} : ∀ {ts : List TypeId} {vs : List Value} {ds : List (DataW H)} {ps : List MemPlace}, DataW.TrodAll enc P W b sp hd ts vs ds ps → ts.length = ds.length
  | [], _, _, _, h => by obtain ⟨_, rfl, _⟩ := trodAll_nil h; rfl
  | _ :: _, _, _, _, h => by
    obtain ⟨v, vs, d, ds, p, q, rfl, rfl, rfl, _, h2⟩ := trodAll_cons h
    simp [trodAll_lens h2]
theorem weightsEach_app : ∀ {ts us : List TypeId} {ds : List (DataW H)} {n : Nat}, ts.length = ds.length → n ∈ DataW.weightsEach P ts ds → n ∈ DataW.weightsEach P (ts ++ us) (ds ++ [])
  | [], us, ds, n, hl, h => by simp [DataW.weightsEach] at h
  | t :: ts, us, [], n, hl, h => by simp at hl
  | t :: ts, us, d :: ds, n, hl, h => by
    simp only [DataW.weightsEach, List.mem_append, List.cons_append] at h ⊢
    rcases h with h | h
    · exact .inl h
    · exact .inr (weightsEach_app (by simpa using hl) h)
def FitsAll : (ts : List Ty) → Tup ts → Prop
  | [], _ => True
  | t :: ts, x => Fits t x.1 ∧ FitsAll ts x.2

/-- An argument, opened. -/
theorem open_arg {bs : Nat} {T : Ty} {t : TypeId} {v : Value} {d : DataW H} {ps : List MemPlace} (hs : tyB P T (.inl t) = true) (hv : Value.okWide P w .any bs t v) (h : DataW.Trod enc P w 0 (fun _ => true) true t v d ps)
    (hw : ∀ n ∈ d.weights P t, n ≤ reachBytes) : ∃ (y : T.D) (cs : List Value), KC w (· < w.heap.size) T y cs ∧ Fits T y ∧ v = mkv T cs := by
  have hopen : ∀ cs, v.cells.toList = cs → cs.length = T.sz → ∃ y : T.D, KC w (· < w.heap.size) T y cs ∧ Fits T y := fun cs e hl => by
    obtain ⟨fuel, hf⟩ := h
    rw [e] at hf
    exact open_ty T (.inl t) hs cs hl ⟨fuel, _, hf, hw⟩
  cases T with
  | int k =>
    simp only [tyB] at hs
    split at hs
    · rename_i ht
      obtain ⟨n, rfl⟩ := okWide_int ht hv
      obtain ⟨y, k1, k2⟩ := hopen [_] rfl rfl
      exact ⟨y, _, k1, k2, rfl⟩
    · cases hs
  | bool =>
    simp only [tyB] at hs
    split at hs
    · rename_i ht
      obtain ⟨n, rfl⟩ := okWide_bool ht hv
      obtain ⟨y, k1, k2⟩ := hopen [_] rfl rfl
      exact ⟨y, _, k1, k2, rfl⟩
    · cases hs
  | str =>
    simp only [tyB] at hs
    split at hs
    · rename_i ht
      obtain ⟨n, rfl⟩ := okWide_string ht hv
      obtain ⟨y, k1, k2⟩ := hopen [_] rfl rfl
      exact ⟨y, _, k1, k2, rfl⟩
    · cases hs
  | unit =>
    simp only [tyB, TF.flds] at hs
    split at hs
    · rename_i hp
      split at hp
      · rename_i fs ht
        obtain ⟨cs, rfl, hsz⟩ := okWide_struct ht hv
        split at hp
        · rename_i hc
          obtain ⟨y, k1, k2⟩ := hopen cs.toList rfl (by rw [Array.length_toList, hsz, hc]; rfl)
          exact ⟨y, _, k1, k2, by simp [mkv, Ty.isAgg]⟩
        · cases hp
      · cases hp
    · cases hs
  | pair a b =>
    simp only [tyB, TF.flds] at hs
    split at hs
    · rename_i hp
      split at hp
      · rename_i fs ht
        obtain ⟨cs, rfl, hsz⟩ := okWide_struct ht hv
        split at hp
        · rename_i hc
          obtain ⟨y, k1, k2⟩ := hopen cs.toList rfl (by rw [Array.length_toList, hsz, hc]; rfl)
          exact ⟨y, _, k1, k2, by simp [mkv, Ty.isAgg]⟩
        · cases hp
      · cases hp
    · cases hs
  | arr n e =>
    simp only [tyB] at hs
    split at hs
    · rename_i m u ht
      obtain ⟨fuel, hf⟩ := id h
      obtain ⟨cs, rfl, hsz⟩ : ∃ cs, v = .agg cs ∧ cs.size = P.cellsOf t := by
        simp only [Value.okWide, ht] at hv
        obtain ⟨cs, e1, e2, _⟩ := hv
        exact ⟨cs, e1, e2⟩
      simp only [Bool.and_eq_true, decide_eq_true_eq] at hs
      obtain ⟨y, k1, k2⟩ := hopen cs.toList rfl (by rw [Array.length_toList, hsz, hs.1.2]; rfl)
      exact ⟨y, _, k1, k2, by simp [mkv, Ty.isAgg]⟩
    · cases hs
  | sl e =>
    simp only [tyB] at hs
    split at hs
    · rename_i ht
      obtain ⟨a, len, cap, rfl⟩ := okWide_slice ht hv
      obtain ⟨y, k1, k2⟩ := hopen [_] rfl rfl
      exact ⟨y, _, k1, k2, rfl⟩
    · cases hs

/-- All arguments, opened. -/
theorem open_args {bs : Nat} : ∀ (Ts : List Ty) (ts : List TypeId), ts.length = Ts.length → ((Ts.zip ts).all fun p => tyB P p.1 (.inl p.2)) = true → ∀ (vs : List Value) (ds : List (DataW H)) (ps : List MemPlace),
    (∀ (j : Nat) t v, ts[j]? = some t → vs[j]? = some v → Value.okWide P w .any bs t v) → DataW.TrodAll enc P w 0 (fun _ => true) true ts vs ds ps → (∀ n ∈ DataW.weightsEach P ts ds, n ≤ reachBytes) →
    ∀ S : Who, ∃ ys : Tup Ts, FitsAll Ts ys ∧ Segs (fun a cs => ∃ v, cs = [v] ∧ CVR ⟨w, (· < w.heap.size), fun _ => none, []⟩ a v) (cvs Ts ys) vs
  | [], [], _, _, vs, ds, ps, _, h, _, _ => by
    obtain ⟨rfl, rfl, rfl⟩ := trodAll_nil h
    exact ⟨(), trivial, rfl⟩
  | T :: Ts, t :: ts, hl, ha, vs, ds, ps, hv, h, hw, S => by
    obtain ⟨v, vs, d, ds, p, q, rfl, rfl, rfl, h1, h2⟩ := trodAll_cons h
    simp only [List.zip_cons_cons, List.all_cons, Bool.and_eq_true] at ha
    simp only [DataW.weightsEach, List.mem_append] at hw
    obtain ⟨y, cs, k1, k2, rfl⟩ := open_arg ha.1 (hv 0 t v rfl rfl) h1 (fun n hn => hw n (.inl hn))
    obtain ⟨ys, l1, l2⟩ := open_args Ts ts (by simpa using hl) ha.2 vs ds q (fun j t v a b => hv (j + 1) t v (by simpa using a) (by simpa using b)) h2 (fun n hn => hw n (.inr hn)) S
    exact ⟨(y, ys), ⟨k2, l1⟩, [mkv T cs], vs, rfl, ⟨_, rfl, cs, k1, rfl⟩, l2⟩
  | [], _ :: _, hl, _, _, _, _, _, _, _, _ => by simp at hl
  | _ :: _, [], hl, _, _, _, _, _, _, _, _ => by simp at hl

theorem trodAll_stays (hl : laidOutB P = true) {W W' : World} (hb : Below W.heap.size W W') : ∀ {ts : List TypeId} {vs : List Value} {ds : List (DataW H)} {ps : List MemPlace},
    (ts.all fun t => P.readableRec t && decide (t < P.types.size)) = true → DataW.TrodAll enc P W 0 (fun _ => true) true ts vs ds ps →
    DataW.TrodAll enc P W' 0 (fun b => decide (b < W.heap.size)) true ts vs ds ps
  | [], _, _, _, _, h => by
    obtain ⟨rfl, rfl, rfl⟩ := trodAll_nil h
    exact trodAll_mk0
  | t :: ts, _, _, _, hr, h => by
    have hlt := h.lt
    obtain ⟨v, vs, d, ds, p, q, rfl, rfl, rfl, h1, h2⟩ := trodAll_cons h
    simp only [List.all_cons, Bool.and_eq_true, decide_eq_true_eq] at hr
    exact trodAll_cons_mk (Below.trod hl hr.1.1 hr.1.2 h1 hb (fun x hx => hlt x (List.mem_append_left _ hx))) (trodAll_stays hl hb hr.2 h2)

/-- What a law's walk gives, where the call begins. -/
theorem law_calls {k : Nat} {args : List CV} (h : ACall P k args [] fun r h => r = .v (.one (.c .bool true)) ∧ h = []) {vs : List Value}
    (hs : Segs (fun a cs => ∃ v, cs = [v] ∧ CVR ⟨w, (· < w.heap.size), fun _ => none, []⟩ a v) args vs) :
    Calls P k vs.toArray w fun e w' => e = .returned (.bool true) ∧ Below w.heap.size w w' := by
  have hr : HR w ⟨fun _ => False, fun _ => True, fun _ _ => trivial⟩ ⟨w, (· < w.heap.size), fun _ => none, []⟩ := {
    root := fun id r h => by simp at h
    inj := fun i j _ _ _ _ h => by simp at h
    notF := fun i r l h => by simp at h
    may := fun i r l h => by simp at h
    inside := fun i r l h => by simp at h
    Fin := fun b h => h
    Fold := fun _ _ _ => trivial
    old := fun _ _ _ => rfl
    size := Nat.le_refl _
    os := rfl
    tape := rfl
    output := rfl }
  refine (h.2 w _ _ vs hr rfl hs).mono ?_
  rintro e w' ⟨av, E', v, rfl, ⟨rfl, _⟩, rfl, _, hr', hv⟩
  obtain ⟨cs, hk, rfl⟩ := hv
  cases hk
  exact ⟨rfl, hr'.os, hr'.tape, hr'.output, hr'.size, fun b hb => hr'.old b hb (fun h => h)⟩

/-- What a law's statement asks of its function. -/
theorem law_contract {bs : Nat} {k : Nat} {f : Func} {s : ChangeSpec} {Ts : List Ty} {tb : TypeId} (hlen : f.params.toList.length = Ts.length) (hty : ((Ts.zip f.params.toList).all fun p => tyB P p.1 (.inl p.2)) = true) (hl : laidOutB P = true)
    (hrd : (f.params.toList.all fun t => P.readableRec t && decide (t < P.types.size)) = true) (hrt : f.resultTypes = #[tb]) (htb : P.underlying tb = some .bool) (hvars : s.vars = [])
    (hfn : ∀ ds : List (DataW H), ds.length = Ts.length → (s.fn H ds).results = [.lit (.bool true)] ∧ (s.fn H ds).args = ds ∧ (s.fn H ds).vars = [])
    (hcall : ∀ ys : Tup Ts, FitsAll Ts ys → ACall P k (cvs Ts ys) [] fun r h => r = .v (.one (.c .bool true)) ∧ h = [])
    (W : World) (args : Array Value) (ds gs : List (DataW H)) (before : List MemPlace)
    (hval : ∀ (j : Nat) t v, f.params[j]? = some t → args[j]? = some v → Value.okWide P W .any bs t v)
    (hW : DataW.Whole enc P f.params.toList s.vars false W args.toList ds gs before)
    (hsz : (DataW.weightsEach P (f.params.toList ++ s.plain.varTypes P) (ds ++ gs)).all (· ≤ reachBytes) = true) :
    Calls P k args W fun e W' => ∃ v, e = .returned v ∧ s.post enc P f false true false false W args v W' := by
  have hW' := hW
  obtain ⟨p, q, hA, hV, rfl, hfz, hnd⟩ := hW
  rw [hvars] at hV
  obtain ⟨rfl, rfl⟩ := trodVars_none hV
  have hdl : ds.length = Ts.length := by rw [← hlen]; exact (trodAll_lens hA).symm
  obtain ⟨ys, hf, hsg⟩ := open_args Ts f.params.toList hlen hty args.toList ds p (fun j t v a b => hval j t v (by simpa using a) (by simpa using b)) hA
    (fun n hn => by
      have hm : n ∈ DataW.weightsEach P (f.params.toList ++ s.plain.varTypes P) (ds ++ []) := weightsEach_app (trodAll_lens hA) hn
      exact of_decide_eq_true (List.all_eq_true.1 hsz n hm)) ⟨fun _ => False, fun _ => True, fun _ _ => trivial⟩
  refine (law_calls (hcall ys hf) hsg).mono ?_
  rintro e W' ⟨rfl, bel⟩
  obtain ⟨h1, h2, h3⟩ := hfn ds hdl
  refine ⟨_, rfl, ds, [], p ++ [], [], p, [], hW', ?_, ?_, ?_, bel.frame _, fun h => by cases h⟩
  · rw [List.append_nil, h1, hrt]
    exact trodAll_mk1 (shut_bool htb _)
  · rw [List.append_nil, h2]
    exact trodAll_stays hl bel hrd hA
  · rw [List.append_nil, h3, hvars]
    rfl
end
end Go.Proofs.Ytgkjgpiggjjmpaa.Ev
