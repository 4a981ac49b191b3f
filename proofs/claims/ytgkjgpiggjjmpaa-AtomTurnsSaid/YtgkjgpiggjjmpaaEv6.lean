/- Lemmas for the claim: Addresses of parts. (no condition.) -/
import Derived.Test.YtgkjgpiggjjmpaaEv5
/-! Addresses of parts. -/
namespace Go.Proofs.Ytgkjgpiggjjmpaa.Ev
open Go
set_option linter.unusedVariables false

def leafStart : Ty → Nat → Nat
  | .pair a b, n + 1 => nleaves a + leafStart b n
  | _, _ => 0

def fieldAddrF {P : Program} (X : Tbl P) (T : TypeId) (f : Nat) (hp : List HC) : SV → Option SV
  | .bp id j => match X.get T, boxOf hp id with
    | some i, some ls => match i.flds[f]? with
      | some (o, _) => if i.t.isPair ∧ j + leafStart i.t f ≤ ls.length ∧ sumsz ((ls.drop j).take (leafStart i.t f)) = o then some (.bp id (j + leafStart i.t f)) else none
      | none => none
    | _, _ => none
  | .cp t x => match X.get T with
    | some i => if t = i.t ∧ t.isPair ∧ f < i.flds.length then (match getp t x (fpath f) with
      | some (.c u y) => some (.cp u y)
      | _ => none) else none
    | none => none
  | .rp id ver t k p => match X.get T, rowOf hp id ver t with
    | some i, some _ => if (t.part p).map (·.2) = some i.t ∧ i.t.isPair ∧ f < i.flds.length then some (.rp id ver t k (p ++ fpath f)) else none
    | _, _ => none
  | _ => none

def intOf : SV → Option Int
  | .c (.int _) n => some n
  | _ => none

def indexAddrF {P : Program} (X : Tbl P) (T : TypeId) (hp : List HC) (n : Int) : SV → Option (Prop × SV)
  | .c (.sl e) xs => match X.get T with
    | some i => if i.t = .sl e then some (0 ≤ n ∧ n < (xs : List e.D).length, .cp e (List.getD xs n.toNat e.z)) else none
    | none => none
  | .ref id ver t off len => match X.get T, rowOf hp id ver t with
    | some i, some _ => if i.t = .sl t then some (0 ≤ n ∧ n < (len : Int), .rp id ver t (off + n.toNat) []) else none
    | _, _ => none
  | .bp id j => match X.get T, boxOf hp id with
    | some i, some ls => match i.t, ls[j]? with
      | .arr m e, some a => if a.size = m ∧ e.sz = 1 ∧ 1 < m then some (0 ≤ n ∧ n < (m : Int), .ip id j n.toNat) else none
      | _, _ => none
    | _, _ => none
  | .cp (.arr m e) xs => match X.get T with
    | some i => if i.t = .arr m e ∧ 1 < m then some (0 ≤ n ∧ n < (m : Int), .cp e (List.getD xs n.toNat e.z)) else none
    | none => none
  | .rp id ver t k p => match X.get T, rowOf hp id ver t with
    | some i, some _ => match i.t with
      | .arr m e => if (t.part p).map (·.2) = some (.arr m e) ∧ 1 < m then some (0 ≤ n ∧ n < (m : Int), .rp id ver t k (p ++ [.ix n.toNat])) else none
      | _ => none
    | _, _ => none
  | _ => none

theorem sumsz_append (l l' : List SV) : sumsz (l ++ l') = sumsz l + sumsz l' := by
  induction l with
  | nil => simp [sumsz]
  | cons a l ih => simp only [List.cons_append, sumsz, ih]; omega

theorem sumsz_take_add (ls : List SV) (j n : Nat) : sumsz (ls.take (j + n)) = sumsz (ls.take j) + sumsz ((ls.drop j).take n) := by
  rw [List.take_add, sumsz_append]

theorem part_append : ∀ {t : Ty} {p q : List Step} {d : Nat} {u : Ty}, t.part p = some (d, u) → t.part (p ++ q) = (u.part q).map fun r => (d + r.1, r.2) := by
  intro t p
  induction p generalizing t with
  | nil =>
    intro q d u h
    have : t.part [] = some (0, t) := by cases t <;> rfl
    rw [this] at h
    simp only [Option.some.injEq, Prod.mk.injEq] at h
    obtain ⟨rfl, rfl⟩ := h
    simp
  | cons s p ih =>
    intro q d u h
    cases t with
    | pair a b =>
      cases s with
      | fst => exact ih (t := a) h
      | snd =>
        simp only [Ty.part, Option.map_eq_some_iff] at h
        obtain ⟨⟨d0, u0⟩, h, e⟩ := h
        simp only [Prod.mk.injEq] at e
        obtain ⟨rfl, rfl⟩ := e
        simp only [List.cons_append, Ty.part, ih h, Option.map_map]
        congr 1
        funext r; simp [Nat.add_assoc]
      | ix i => simp [Ty.part] at h
    | arr n e =>
      cases s with
      | ix i =>
        simp only [Ty.part] at h
        split at h
        · rename_i hi
          simp only [Option.map_eq_some_iff] at h
          obtain ⟨⟨d0, u0⟩, h, e0⟩ := h
          simp only [Prod.mk.injEq] at e0
          obtain ⟨rfl, rfl⟩ := e0
          simp only [List.cons_append, Ty.part, hi, if_true, ih h, Option.map_map]
          congr 1
          funext r; simp [Nat.add_assoc]
        · cases h
      | fst => simp [Ty.part] at h
      | snd => simp [Ty.part] at h
    | int k => cases s <;> simp [Ty.part] at h
    | bool => cases s <;> simp [Ty.part] at h
    | str => cases s <;> simp [Ty.part] at h
    | unit => cases s <;> simp [Ty.part] at h
    | sl e => cases s <;> simp [Ty.part] at h

section
variable {P : Program} {X : Tbl P} {w0 : World} {S : Who} {E : Env} {T : TypeId}

/-- A struct's field, as the program has it. -/
theorem Tbl.field (X : Tbl P) {i : TInfo} (hX : X.get T = some i) (hp : i.t.isPair = true) {f o : Nat} {u : TypeId} (hf : i.flds[f]? = some (o, u)) :
    ∃ fs fd j, P.underlying T = some (.struct fs) ∧ fs[f]? = some fd ∧ fd.offset = o ∧ fd.type = u ∧ X.get u = some j ∧ i.t.part (fpath f) = some (o, j.t) ∧ 0 < j.t.sz := by
  have hu := (X.ok T i hX).und
  cases e : i.t with
  | pair a b =>
    rw [e] at hu
    obtain ⟨fs, h1, h2, h3⟩ := hu
    obtain ⟨j, h4, h5, h6⟩ := h3 f o u hf
    rw [← h2] at hf
    simp only [List.getElem?_map, Option.map_eq_some_iff, Prod.mk.injEq] at hf
    obtain ⟨fd, h7, h8, h9⟩ := hf
    exact ⟨fs, fd, j, h1, by simpa using h7, h8, h9, h4, h5, h6⟩
  | unit =>
    rw [e] at hu
    rw [hu.2] at hf
    cases hf
  | _ => rw [e] at hp; cases hp

theorem fieldAt_run {i : TInfo} (hX : X.get T = some i) (hp : i.t.isPair = true) {f o : Nat} {u : TypeId} (hf : i.flds[f]? = some (o, u)) (w : World) (b q : Nat) :
    (Instr.fieldAt T (.pointer (some ⟨b, q, none⟩)) f).run P w = .ok (.pointer (some ⟨b, q + o, none⟩)) w := by
  obtain ⟨fs, fd, j, h1, h2, h3, h4, h5, h6, h7⟩ := X.field hX hp hf
  subst h3 h4
  simp only [Instr.fieldAt, Sem.run_bind, run_underlying h1, Result.andThen_ok, h2, Instr.sureAddr, Sem.run_pure, fieldPlace, X.size h5, Sem.run_ite]
  rw [if_neg (by omega)]
  simp [add_off]

theorem fieldAddrF_ok (h : HR w0 S E) {a : SV} {v : Value} (hv : SVR E a v) {f : Nat} {r : SV} (hr : fieldAddrF X T f E.hp a = some r) :
    ∃ u, (Instr.fieldAt T v f).run P E.w = .ok u E.w ∧ SVR E r u := by
  cases a with
  | bp id j =>
    simp only [fieldAddrF] at hr
    split at hr
    · rename_i i ls hX hb
      have hb := boxOf_some hb
      split at hr
      · rename_i o u hf
        split at hr
        · rename_i hc
          obtain ⟨hp, hlen, hsz⟩ := hc
          simp only [Option.some.injEq] at hr
          subst hr
          obtain ⟨hn, hv⟩ := hv
          obtain ⟨hj, l, hl, rfl⟩ := hv ls hb
          refine ⟨_, fieldAt_run hX hp hf _ _ _, hn, fun ls' hb' => ?_⟩
          rw [hb] at hb'
          simp only [Option.some.injEq, HC.live.injEq, Root.box.injEq] at hb'
          subst hb'
          exact ⟨hlen, l, hl, by rw [sumsz_take_add, hsz]⟩
        · cases hr
      · cases hr
    · cases hr
  | cp t x =>
    simp only [fieldAddrF] at hr
    split at hr
    · rename_i i hX
      split at hr
      · rename_i hc
        obtain ⟨rfl, hp, hlen⟩ := hc
        split at hr
        · rename_i u y hg
          simp only [Option.some.injEq] at hr
          subst hr
          obtain ⟨b, o, cs, rfl, hF, hk, hca⟩ := hv
          have hf : i.flds[f]? = some (i.flds[f].1, i.flds[f].2) := List.getElem?_eq_getElem hlen
          obtain ⟨fs, fd, j, h1, h2, h3, h4, h5, h6, h7⟩ := X.field hX hp hf
          obtain ⟨y', c1, c2, c3, ea, ed, el, hy⟩ := hk.getp hg h6
          simp only [SV.c.injEq] at ea
          obtain ⟨rfl, ea⟩ := ea
          cases ea
          rw [ed] at hca
          have hca := hca.seg
          rw [el] at hca
          exact ⟨_, fieldAt_run hX hp hf _ _ _, b, _, c2, rfl, hF, hy, hca⟩
        · cases hr
      · cases hr
    · cases hr
  | rp id ver t k p =>
    simp only [fieldAddrF] at hr
    split at hr
    · rename_i i xs hX hb
      have hb := rowOf_some hb
      split at hr
      · rename_i hc
        obtain ⟨hpart, hp, hlen⟩ := hc
        simp only [Option.some.injEq] at hr
        subst hr
        obtain ⟨hn, hv⟩ := hv
        have hf : i.flds[f]? = some (i.flds[f].1, i.flds[f].2) := List.getElem?_eq_getElem hlen
        obtain ⟨fs, fd, j, h1, h2, h3, h4, h5, h6, h7⟩ := X.field hX hp hf
        simp only [Option.map_eq_some_iff] at hpart
        obtain ⟨⟨d, u⟩, hpart, rfl⟩ := hpart
        obtain ⟨_, hv⟩ := hv xs ver hb
        obtain ⟨hk, l, hl, d', t', hpart', rfl⟩ := hv rfl
        rw [hpart] at hpart'
        simp only [Option.some.injEq, Prod.mk.injEq] at hpart'
        obtain ⟨rfl, rfl⟩ := hpart'
        refine ⟨_, fieldAt_run hX hp hf _ _ _, hn, fun xs' ver' hb' => ?_⟩
        rw [hb] at hb'
        simp only [Option.some.injEq, HC.live.injEq, Root.row.injEq, heq_eq_eq, true_and] at hb'
        obtain ⟨rfl, rfl⟩ := hb'
        exact ⟨Nat.le_refl _, fun _ => ⟨hk, l, hl, _, _, by rw [part_append hpart, h6]; rfl, by rw [Nat.add_assoc]⟩⟩
      · cases hr
    · cases hr
  | _ => simp [fieldAddrF] at hr

theorem run_asIntOf (k : IntKind) (n : Int) (w : World) : (asIntOf (.int k n)).run P w = .ok (k, n) w := rfl

theorem indexSlice_run {i : TInfo} (hX : X.get T = some i) {e : Ty} (ht : i.t = .sl e) (k : IntKind) (n : Int) (w : World) (b q len cap : Nat) (h0 : 0 ≤ n) (h1 : n < (len : Int)) :
    (Instr.indexAt T (.slice (some ⟨b, q, none⟩) len cap) (.int k n)).run P w = .ok (.pointer (some ⟨b, q + n.toNat * e.sz, none⟩)) w := by
  have hu := (X.ok T i hX).und
  rw [ht] at hu
  obtain ⟨hu, j, hj, rfl, hs⟩ := hu
  simp only [Instr.indexAt, Sem.run_bind, run_asIntOf, Result.andThen_ok, run_underlying hu, Sem.run_pure]
  have : (decide (len ≤ 1) && false) = false := by simp
  simp [h0, h1, X.size hj, add_off]

theorem indexArr_run {i : TInfo} (hX : X.get T = some i) {e : Ty} {m : Nat} (ht : i.t = .arr m e) (k : IntKind) (n : Int) (w : World) (b q : Nat) (h0 : 0 ≤ n) (h1 : n < (m : Int)) :
    (Instr.indexAt T (.pointer (some ⟨b, q, none⟩)) (.int k n)).run P w = .ok (.pointer (some ⟨b, q + n.toNat * e.sz, none⟩)) w := by
  have hu := (X.ok T i hX).und
  rw [ht] at hu
  obtain ⟨hu, j, hj, rfl, hs⟩ := hu
  simp only [Instr.indexAt, Sem.run_bind, run_asIntOf, Result.andThen_ok, run_underlying hu, Instr.sureAddr, Sem.run_pure]
  simp [h0, h1, X.size hj, add_off, run_underlying hu]

theorem indexAddrF_ok (h : HR w0 S E) {a : SV} {v : Value} (hv : SVR E a v) {n : Int} {r : SV} {p : Prop} (hr : indexAddrF X T E.hp n a = some (p, r)) (hp : p) (k : IntKind) :
    ∃ u, (Instr.indexAt T v (.int k n)).run P E.w = .ok u E.w ∧ SVR E r u := by
  cases a with
  | c t x =>
    cases t with
    | sl e =>
      simp only [indexAddrF] at hr
      split at hr
      · rename_i i hX
        split at hr
        · rename_i ht
          simp only [Option.some.injEq, Prod.mk.injEq] at hr
          obtain ⟨rfl, rfl⟩ := hr
          obtain ⟨h0, h1⟩ := hp
          obtain ⟨cs, hk, rfl⟩ := hv
          obtain ⟨A, c, rfl, hc, hk⟩ := hk
          have hlt : n.toNat < (x : List e.D).length := by omega
          obtain ⟨b, o, rfl, hF, hk⟩ := hk (by intro e; rw [e] at hlt; simp at hlt)
          obtain ⟨ec, h2, h3⟩ := hk n.toNat _ (List.getElem?_eq_getElem hlt)
          have hm : mkv (.sl e) [Value.slice (some ⟨b, o, none⟩) (x : List e.D).length c] = Value.slice (some ⟨b, o, none⟩) (x : List e.D).length c := rfl
          rw [hm]
          refine ⟨_, indexSlice_run hX ht k n _ b o _ _ h0 h1, b, _, ec, rfl, hF, ?_, h3⟩
          rw [List.getD_eq_getElem?_getD, List.getElem?_eq_getElem hlt]; exact h2
        · cases hr
      · cases hr
    | _ => simp [indexAddrF] at hr
  | ref id ver t off len =>
    simp only [indexAddrF] at hr
    split at hr
    · rename_i i xs hX hb
      have hb := rowOf_some hb
      split at hr
      · rename_i ht
        simp only [Option.some.injEq, Prod.mk.injEq] at hr
        obtain ⟨rfl, rfl⟩ := hr
        obtain ⟨h0, h1⟩ := hp
        obtain ⟨hn, hv⟩ := hv
        obtain ⟨_, hv⟩ := hv xs ver hb
        obtain ⟨hlen, hv⟩ := hv rfl
        have hroot := h.root id _ hb
        simp only [RootR] at hroot
        cases hl : E.loc id with
        | none =>
          rw [hl] at hroot
          subst hroot
          simp at hlen
          omega
        | some l =>
          rw [hl] at hroot hv
          obtain ⟨ty, cells, hc, hcap, hlen2, hrow⟩ := hroot
          obtain ⟨A, rfl, hA⟩ := hv
          obtain rfl := hA (by omega)
          refine ⟨_, indexSlice_run hX ht k n _ l.b _ len _ h0 h1, hn, fun xs' ver' hb' => ?_⟩
          rw [hb] at hb'
          simp only [Option.some.injEq, HC.live.injEq, Root.row.injEq, heq_eq_eq, true_and] at hb'
          obtain ⟨rfl, rfl⟩ := hb'
          refine ⟨Nat.le_refl _, fun _ => ⟨by omega, l, hl, 0, t, by cases t <;> rfl, ?_⟩⟩
          rw [Nat.add_mul, Nat.add_zero, Nat.add_assoc]
      · cases hr
    · cases hr
  | bp id j =>
    simp only [indexAddrF] at hr
    split at hr
    · rename_i i ls hX hb
      have hb := boxOf_some hb
      split at hr
      · rename_i m e a ht ha
        split at hr
        · rename_i hc
          obtain ⟨hsz, he, hm⟩ := hc
          simp only [Option.some.injEq, Prod.mk.injEq] at hr
          obtain ⟨rfl, rfl⟩ := hr
          obtain ⟨h0, h1⟩ := hp
          obtain ⟨hn, hv⟩ := hv
          obtain ⟨hj, l, hl, rfl⟩ := hv ls hb
          refine ⟨_, indexArr_run hX ht k n _ _ _ h0 h1, hn, fun ls' hb' => ?_⟩
          rw [hb] at hb'
          simp only [Option.some.injEq, HC.live.injEq, Root.box.injEq] at hb'
          subst hb'
          exact ⟨⟨a.size, by rw [List.getElem?_map, ha]; rfl, by omega⟩, l, hl, by rw [he, Nat.mul_one]⟩
        · cases hr
      · cases hr
    · cases hr
  | cp t x =>
    cases t with
    | arr m e =>
      simp only [indexAddrF] at hr
      split at hr
      · rename_i i hX
        split at hr
        · rename_i ht
          obtain ⟨ht, hm⟩ := ht
          simp only [Option.some.injEq, Prod.mk.injEq] at hr
          obtain ⟨rfl, rfl⟩ := hr
          obtain ⟨h0, h1⟩ := hp
          obtain ⟨b, o, cs, rfl, hF, hk, hca⟩ := hv
          have hpt : (Ty.arr m e).part [.ix n.toNat] = some (n.toNat * e.sz + 0, e) := by
            simp only [Ty.part]; rw [if_pos (by omega)]; cases e <;> rfl
          have hg : Ev.getp (.arr m e) x [.ix n.toNat] = some (.c e (List.getD x n.toNat e.z)) := by simp only [Ev.getp]
          obtain ⟨y, c1, c2, c3, ea, ed, el, hy⟩ := hk.getp hg hpt
          simp only [SV.c.injEq, heq_eq_eq, true_and] at ea
          subst ea
          rw [ed] at hca
          have hca := hca.seg
          rw [el, Nat.add_zero] at hca
          exact ⟨_, indexArr_run hX ht k n _ _ _ h0 h1, b, _, c2, rfl, hF, hy, hca⟩
        · cases hr
      · cases hr
    | _ => simp [indexAddrF] at hr
  | rp id ver t q p =>
    simp only [indexAddrF] at hr
    split at hr
    · rename_i i xs hX hb
      have hb := rowOf_some hb
      split at hr
      · rename_i m e ht
        split at hr
        · rename_i hc
          obtain ⟨hpart, hm⟩ := hc
          simp only [Option.some.injEq, Prod.mk.injEq] at hr
          obtain ⟨rfl, rfl⟩ := hr
          obtain ⟨h0, h1⟩ := hp
          obtain ⟨hn, hv⟩ := hv
          simp only [Option.map_eq_some_iff] at hpart
          obtain ⟨⟨d, u⟩, hpart, rfl⟩ := hpart
          obtain ⟨_, hv⟩ := hv xs ver hb
          obtain ⟨hk, l, hl, d', t', hpart', rfl⟩ := hv rfl
          rw [hpart] at hpart'
          simp only [Option.some.injEq, Prod.mk.injEq] at hpart'
          obtain ⟨rfl, rfl⟩ := hpart'
          refine ⟨_, indexArr_run hX ht k n _ _ _ h0 h1, hn, fun xs' ver' hb' => ?_⟩
          rw [hb] at hb'
          simp only [Option.some.injEq, HC.live.injEq, Root.row.injEq, heq_eq_eq, true_and] at hb'
          obtain ⟨rfl, rfl⟩ := hb'
          have hpt : (Ty.arr m e).part [.ix n.toNat] = some (n.toNat * e.sz + 0, e) := by
            simp only [Ty.part]; rw [if_pos (by omega)]; cases e <;> rfl
          exact ⟨Nat.le_refl _, fun _ => ⟨hk, l, hl, _, _, by rw [part_append hpart, hpt]; rfl, by simp [Nat.add_assoc]⟩⟩
        · cases hr
      · cases hr
    · cases hr
  | _ => simp [indexAddrF] at hr
end
end Go.Proofs.Ytgkjgpiggjjmpaa.Ev
