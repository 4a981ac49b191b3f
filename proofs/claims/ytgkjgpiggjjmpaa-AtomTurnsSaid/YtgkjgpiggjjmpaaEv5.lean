/- Lemmas for the claim: Addresses, loads, fields, indexes. (no condition.) -/
import Derived.Test.YtgkjgpiggjjmpaaEv4
/-! Addresses, loads, fields, indexes. -/
namespace Go.Proofs.Ytgkjgpiggjjmpaa.Ev
open Go
set_option linter.unusedVariables false

/-- The row as it stands, if the reference is not out of date. -/
def rowOf (hp : List HC) (id ver : Nat) (t : Ty) : Option (List t.D) :=
  match hp[id]? with
  | some (.live (.row t' xs ver')) => if h : t' = t then (if ver' = ver then some (cast (congrArg (fun t => List (Ty.D t)) h) xs) else none) else none
  | _ => none

theorem rowOf_some {hp : List HC} {id ver : Nat} {t : Ty} {xs : List t.D} (h : rowOf hp id ver t = some xs) : hp[id]? = some (.live (.row t xs ver)) := by
  unfold rowOf at h
  split at h
  · rename_i t' xs' ver' e
    split at h
    · rename_i ht
      subst ht
      split at h
      · rename_i hv
        subst hv
        simp at h; subst h; exact e
      · cases h
    · cases h
  · cases h

def boxOf (hp : List HC) (id : Nat) : Option (List SV) :=
  match hp[id]? with
  | some (.live (.box ls)) => some ls
  | _ => none

theorem boxOf_some {hp : List HC} {id : Nat} {ls : List SV} (h : boxOf hp id = some ls) : hp[id]? = some (.live (.box ls)) := by
  unfold boxOf at h
  split at h
  · rename_i e; simp at h; subst h; exact e
  · cases h

/-- A part of a value. -/
def getp : (t : Ty) → t.D → List Step → Option SV
  | t, x, [] => some (.c t x)
  | .pair a b, x, .fst :: p => getp a x.1 p
  | .pair a b, x, .snd :: p => getp b x.2 p
  | .arr n e, x, .ix i :: p => getp e (x.getD i e.z) p
  | _, _, _ => none

/-- A value as it is loaded from a piece. -/
def asT (t : Ty) : SV → Option CV
  | .c t' x => if t' = t then some (.one (.c t' x)) else none
  | a => if t.isAgg then none else some (.one a)

def loadF {P : Program} (X : Tbl P) (T : TypeId) (hp : List HC) : SV → Option CV
  | .bp id j => match X.get T, boxOf hp id with
    | some i, some ls => if i.t.isPair then (if sumsz ((ls.drop j).take (nleaves i.t)) = i.t.sz then some (.agg ((ls.drop j).take (nleaves i.t))) else none)
        else match ls[j]? with
          | some a => asT i.t a
          | none => none
    | _, _ => none
  | .cp t x => match X.get T with
    | some i => if t = i.t then some (.one (.c t x)) else none
    | none => none
  | .rp id ver t k p => match X.get T, rowOf hp id ver t with
    | some i, some xs => match getp t (xs.getD k t.z) p with
      | some a => asT i.t a
      | none => none
    | _, _ => none
  | .ip id j k => match X.get T, boxOf hp id with
    | some i, some ls => match ls[j]? with
      | some (.c (.arr n e) xs) => if e = i.t ∧ e.isAgg = false ∧ e.sz = 1 then some (.one (.c e (xs.getD k e.z))) else none
      | _ => none
    | _, _ => none
  | _ => none

theorem cellsAt_heap {w : World} {b : Nat} {cells : Array Value} {ty : TypeId} {fr : Nat × Nat} (h : w.heap[b]? = some (.cells cells ty fr)) : CellsAt w b 0 cells.toList := by
  intro j v hj
  simp only [World.cell?, h]
  simpa using hj

theorem CellsAt.seg {w : World} {b o : Nat} {c1 c2 c3 : List Value} (h : CellsAt w b o (c1 ++ c2 ++ c3)) : CellsAt w b (o + c1.length) c2 := by
  rw [List.append_assoc] at h
  exact h.right.left

theorem segs_box {E : Env} {ls : List SV} {cs : List Value} (h : Segs (SVC E) ls cs) (j n : Nat) :
    ∃ c1 c2 c3, cs = c1 ++ c2 ++ c3 ∧ c1.length = sumsz (ls.take j) ∧ Segs (SVC E) ((ls.drop j).take n) c2 := by
  have e : ls = ls.take j ++ (((ls.drop j).take n) ++ ((ls.drop j).drop n)) := by rw [List.take_append_drop, List.take_append_drop]
  rw [e] at h
  obtain ⟨c1, c23, e1, h1, h23⟩ := h.split
  obtain ⟨c2, c3, e2, h2, h3⟩ := h23.split
  refine ⟨c1, c2, c3, by rw [e1, e2, List.append_assoc], ?_, h2⟩
  rw [segs_sumsz h1]

/-- Which cells a part of a value has. -/
theorem KC.getp {w : World} {F : Nat → Prop} : ∀ {t : Ty} {x : t.D} {cs : List Value} {p : List Step} {a : SV}, KC w F t x cs → Ev.getp t x p = some a → ∀ {d : Nat} {t' : Ty}, t.part p = some (d, t') →
    ∃ y c1 c2 c3, a = .c t' y ∧ cs = c1 ++ c2 ++ c3 ∧ c1.length = d ∧ KC w F t' y c2 := by
  intro t x cs p
  induction p generalizing t cs with
  | nil =>
    intro a hk ha d t' hp
    have e1 : Ev.getp t x [] = some (.c t x) := by cases t <;> rfl
    have e2 : t.part [] = some (0, t) := by cases t <;> rfl
    rw [e1] at ha; rw [e2] at hp
    simp only [Option.some.injEq, Prod.mk.injEq] at ha hp
    obtain ⟨rfl, rfl⟩ := hp
    exact ⟨x, [], cs, [], ha.symm, by simp, rfl, hk⟩
  | cons s p ih =>
    intro a hk ha d t' hp
    cases t with
    | pair u v =>
      obtain ⟨c1, c2, e, h1, h2⟩ := hk
      cases s with
      | fst =>
        obtain ⟨y, d1, d2, d3, ea, ed, el, hy⟩ := ih h1 ha hp
        exact ⟨y, d1, d2, d3 ++ c2, ea, by rw [e, ed]; simp, el, hy⟩
      | snd =>
        simp only [Ty.part, Option.map_eq_some_iff] at hp
        obtain ⟨⟨d0, t0⟩, hp, e0⟩ := hp
        simp only [Prod.mk.injEq] at e0
        obtain ⟨rfl, rfl⟩ := e0
        obtain ⟨y, d1, d2, d3, ea, ed, el, hy⟩ := ih h2 ha hp
        exact ⟨y, c1 ++ d1, d2, d3, ea, by rw [e, ed]; simp, by rw [List.length_append, el, h1.len], hy⟩
      | ix i => simp [Ev.getp] at ha
    | arr n e =>
      cases s with
      | ix i =>
        obtain ⟨hn, hs⟩ := hk
        simp only [Ty.part] at hp
        split at hp
        · rename_i hi
          simp only [Option.map_eq_some_iff] at hp
          obtain ⟨⟨d0, t0⟩, hp, e0⟩ := hp
          simp only [Prod.mk.injEq] at e0
          obtain ⟨rfl, rfl⟩ := e0
          have hx : (x : List e.D) = x.take i ++ ((x.getD i e.z) :: x.drop (i + 1)) := by
            have : i < x.length := by omega
            rw [List.getD_eq_getElem?_getD, List.getElem?_eq_getElem this, Option.getD_some, List.getElem_cons_drop, List.take_append_drop]
          rw [hx] at hs
          obtain ⟨c1, c23, e1, h1, c2, c3, e2, h2, h3⟩ := hs.split
          have ha' : Ev.getp e (x.getD i e.z) p = some a := ha
          obtain ⟨y, d1, d2, d3, ea, ed, el, hy⟩ := ih h2 ha' hp
          refine ⟨y, c1 ++ d1, d2, d3 ++ c3, ea, by rw [e1, e2, ed]; simp, ?_, hy⟩
          rw [List.length_append, el, h1.length (fun _ _ h => h.len), List.length_take, Nat.min_eq_left (by omega)]
        · cases hp
      | fst => simp [Ev.getp] at ha
      | snd => simp [Ev.getp] at ha
    | int k => cases s <;> simp [Ev.getp] at ha
    | bool => cases s <;> simp [Ev.getp] at ha
    | str => cases s <;> simp [Ev.getp] at ha
    | unit => cases s <;> simp [Ev.getp] at ha
    | sl e => cases s <;> simp [Ev.getp] at ha

section
variable {P : Program} {X : Tbl P} {w0 : World} {S : Who} {E : Env} {T : TypeId}

theorem Ty.one_of {t : Ty} (h : t.isAgg = false) : t.sz = 1 := by cases t <;> simp_all [Ty.isAgg, Ty.sz]

theorem mkv_one {t : Ty} {v : Value} (h : t.isAgg = false) : mkv t [v] = v := by simp [mkv, h]

/-- A piece whose cells are these is the value made of them. -/
theorem asT_ok {i : TInfo} {a : SV} {r : CV} {cs : List Value} (hX : X.get T = some i) (ha : asT i.t a = some r) (hs : SVC E a cs) {b o : Nat} (hc : CellsAt E.w b o cs) :
    (loadVar T ⟨b, o, none⟩).run P E.w = .ok (mkv i.t cs) E.w ∧ CVR E r (mkv i.t cs) := by
  have single : ∀ {v : Value}, i.t.isAgg = false → cs = [v] → (loadVar T ⟨b, o, none⟩).run P E.w = .ok (mkv i.t cs) E.w ∧ mkv i.t cs = v := fun {v} h e => by
    subst e
    exact ⟨X.loadVar hX hc (Ty.one_of h).symm (fun _ => rfl), mkv_one h⟩
  cases a with
  | c t x =>
    simp only [asT] at ha
    split at ha
    · rename_i e
      simp only [Option.some.injEq] at ha
      subst ha
      subst e
      have hk : KC E.w E.F i.t x cs := hs
      exact ⟨X.loadVar hX hc hk.len (fun h => by rw [hk.len, Ty.one_of h]), cs, hk, rfl⟩
    · cases ha
  | _ =>
    simp only [asT] at ha
    split at ha
    · cases ha
    · rename_i h
      simp only [Option.some.injEq] at ha
      subst ha
      obtain ⟨v, e, hv⟩ := hs
      obtain ⟨h1, h2⟩ := single (by simpa using h) e
      exact ⟨h1, by rw [h2]; exact hv⟩

theorem loadF_ok (h : HR w0 S E) {a : SV} {v : Value} (hv : SVR E a v) {r : CV} (hr : loadF X T E.hp a = some r) :
    ∃ u, (Instr.loadAt T v).run P E.w = .ok u E.w ∧ CVR E r u := by
  cases a with
  | bp id j =>
    simp only [loadF] at hr
    split at hr
    · rename_i i ls hX hb
      have hb := boxOf_some hb
      obtain ⟨hn, hv⟩ := hv
      obtain ⟨hj, l, hl, rfl⟩ := hv ls hb
      obtain ⟨l', ty, cells, hl', hc, hs⟩ := h.root id _ hb
      rw [hl] at hl'; simp only [Option.some.injEq] at hl'; subst hl'
      have hca := cellsAt_heap hc
      simp only [Instr.loadAt, Instr.sureAddr, Sem.run_bind, Sem.run_pure, Result.andThen_ok]
      split at hr
      · rename_i hp
        split at hr
        · rename_i hsz
          simp only [Option.some.injEq] at hr
          subst hr
          obtain ⟨c1, c2, c3, e, h1, h2⟩ := segs_box hs j (nleaves i.t)
          rw [e] at hca
          have hca := hca.seg
          rw [Nat.zero_add, h1] at hca
          have hlen : c2.length = i.t.sz := (segs_sumsz h2).trans hsz
          have hagg : i.t.isAgg = true := by revert hp; cases i.t <;> simp [Ty.isPair, Ty.isAgg]
          exact ⟨_, X.loadVar hX hca hlen (fun h => by rw [hagg] at h; cases h), c2, h2, by simp [mkv, hagg]⟩
        · cases hr
      · split at hr
        · rename_i a ha
          obtain ⟨c1, c2, c3, e, h1, h2⟩ := segs_box hs j 1
          rw [show (ls.drop j).take 1 = [a] by
            obtain ⟨hlt, e⟩ := List.getElem?_eq_some_iff.1 ha
            rw [← List.getElem_cons_drop hlt, e]; rfl] at h2
          obtain ⟨d1, d2, e2, h3, h4⟩ := h2
          cases h4
          rw [List.append_nil] at e2
          subst e2
          rw [e] at hca
          have hca := hca.seg
          rw [Nat.zero_add, h1] at hca
          obtain ⟨h5, h6⟩ := asT_ok hX hr h3 hca
          exact ⟨_, h5, h6⟩
        · cases hr
    · cases hr
  | cp t x =>
    simp only [loadF] at hr
    split at hr
    · rename_i i hX
      split at hr
      · rename_i e
        simp only [Option.some.injEq] at hr
        subst hr; subst e
        obtain ⟨b, o, cs, rfl, hF, hk, hc⟩ := hv
        simp only [Instr.loadAt, Instr.sureAddr, Sem.run_bind, Sem.run_pure, Result.andThen_ok]
        exact ⟨_, X.loadVar hX hc hk.len (fun h => by rw [hk.len, Ty.one_of h]), cs, hk, rfl⟩
      · cases hr
    · cases hr
  | rp id ver t k p =>
    simp only [loadF] at hr
    split at hr
    · rename_i i xs hX hb
      have hb := rowOf_some hb
      obtain ⟨hn, hv⟩ := hv
      obtain ⟨_, hv⟩ := hv xs ver hb
      obtain ⟨hk, l, hl, hv⟩ := hv rfl
      have hroot := h.root id _ hb
      simp only [RootR, hl] at hroot
      obtain ⟨ty, cells, hc, hcap, hlen, hrow⟩ := hroot
      split at hr
      · rename_i a ha
        obtain ⟨ec, hec, hca⟩ := hrow k _ (List.getElem?_eq_getElem hk)
        rw [show xs.getD k t.z = xs[k] by rw [List.getD_eq_getElem?_getD, List.getElem?_eq_getElem hk]; rfl] at ha
        obtain ⟨d, t', hp, rfl⟩ := hv
        obtain ⟨y, c1, c2, c3, ea, ed, el, hy⟩ := hec.getp ha hp
        subst ea
        simp only [Instr.loadAt, Instr.sureAddr, Sem.run_bind, Sem.run_pure, Result.andThen_ok]
        rw [ed] at hca
        have hca := hca.seg
        rw [el] at hca
        obtain ⟨h5, h6⟩ := asT_ok (E := E) hX hr (a := .c t' y) hy hca
        exact ⟨_, h5, h6⟩
      · cases hr
    · cases hr
  | ip id j k =>
    simp only [loadF] at hr
    split at hr
    · rename_i i ls hX hb
      have hb := boxOf_some hb
      obtain ⟨hn, hv⟩ := hv
      obtain ⟨⟨s, hs1, hs2⟩, l, hl, rfl⟩ := hv ls hb
      obtain ⟨l', ty, cells, hl', hc, hs⟩ := h.root id _ hb
      rw [hl] at hl'; simp only [Option.some.injEq] at hl'; subst hl'
      have hca := cellsAt_heap hc
      simp only [Instr.loadAt, Instr.sureAddr, Sem.run_bind, Sem.run_pure, Result.andThen_ok]
      split at hr
      · rename_i n e xs ha
        split at hr
        · rename_i he
          obtain ⟨rfl, he1, he2⟩ := he
          simp only [Option.some.injEq] at hr
          subst hr
          obtain ⟨c1, c2, c3, e, h1, h2⟩ := segs_box hs j 1
          rw [show (ls.drop j).take 1 = [.c (.arr n i.t) xs] by
            obtain ⟨hlt, e⟩ := List.getElem?_eq_some_iff.1 ha
            rw [← List.getElem_cons_drop hlt, e]; rfl] at h2
          obtain ⟨d1, d2, e2, h3, h4⟩ := h2
          cases h4
          rw [List.append_nil] at e2
          subst e2
          rw [e] at hca
          have hca := hca.seg
          rw [Nat.zero_add, h1] at hca
          rw [List.getElem?_map, ha] at hs1
          simp only [Option.map_some, Option.some.injEq, SV.size, Ty.sz, he2, Nat.mul_one] at hs1
          have hka : KC E.w E.F (.arr n i.t) xs c2 := h3
          have hp : (Ty.arr n i.t).part [.ix k] = some (k * i.t.sz + 0, i.t) := by
            simp only [Ty.part]
            rw [if_pos (by omega)]
            cases i.t <;> rfl
          have hg : Ev.getp (.arr n i.t) xs [.ix k] = some (.c i.t (xs.getD k i.t.z)) := by
            simp only [Ev.getp]
          obtain ⟨y, d1, d2, d3, ea, ed, el, hy⟩ := hka.getp hg hp
          rw [ed] at hca
          have hca := hca.seg
          rw [el, he2, Nat.mul_one, Nat.add_zero] at hca
          have hasT : asT i.t (.c i.t (xs.getD k i.t.z)) = some (.one (.c i.t (xs.getD k i.t.z))) := by simp [asT]
          rw [ea] at hasT ⊢
          obtain ⟨h5, h6⟩ := asT_ok (E := E) hX hasT (a := .c i.t y) hy hca
          exact ⟨_, h5, h6⟩
        · cases hr
      · cases hr
    · cases hr
  | _ => simp [loadF] at hr
end
end Go.Proofs.Ytgkjgpiggjjmpaa.Ev
