/- Lemmas for the claim: One operation. (no condition.) -/
import Derived.Test.YtgkjgpiggjjmpaaEv13
/-! One operation. -/
namespace Go.Proofs.Ytgkjgpiggjjmpaa.Ev
open Go
set_option linter.unusedVariables false

def AV.cv : AV → CV
  | .v a => a
  | .tup _ => .one .u
def CV.sv : CV → SV
  | .one a => a
  | _ => .u

def constV {P : Program} (X : Tbl P) (T : TypeId) : Value → SV
  | .int k n => .c (.int k) n
  | .bool b => .c .bool b
  | .string s => .c .str s
  | .slice none 0 0 => match X.get T with
    | some i => match i.t with
      | .sl e => .nl e
      | _ => .u
    | none => .u
  | _ => .u

def opd {P : Program} (X : Tbl P) (T : TypeId) (tm : List AV) : Operand → AV
  | .tmp t => tm.getD t (.v (.one .u))
  | .const v => .v (.one (constV X T v))
  | .func f => .v (.fn f [])
  | .global _ => .v (.one .u)

def oint {P : Program} (X : Tbl P) (tm : List AV) : Option Operand → Option (Option Int)
  | none => some none
  | some x => (intOf (opd X 0 tm x).cv.sv).map some

def ones : List CV → Option (List SV)
  | [] => some []
  | .one a :: l => (ones l).map (a :: ·)
  | _ => none

def fOp {P : Program} (X : Tbl P) (slot : Nat) (o : Oper) (tm : List AV) (hp : List HC) : Option (Prop × AV × List HC) :=
  match o.op with
  | .move x => some (True, opd X o.type tm x, hp)
  | .assign x => some (True, opd X o.type tm x, hp)
  | .pick c a b => match opd X 0 tm c with
    | .v (.one (.c .bool x)) => some (True, match x with | true => opd X o.type tm a | false => opd X o.type tm b, hp)
    | _ => none
  | .alloc T => match X.get T with
    | some i => some (True, .v (.one (.bp slot 0)), hp.set slot (.live (.box (zl i.t))))
    | none => none
  | .box T x => match X.get T with
    | some i => match leavesOf i.t (opd X T tm x).cv with
      | some l => if l.all (isLive hp) = true then some (True, .v (.one (.bp slot 0)), hp.set slot (.live (.box l))) else none
      | none => none
    | none => none
  | .build T parts => match X.get T with
    | some i => match i.t with
      | .pair a b => if i.flds.all (fun p => (X.get p.2).isSome) = true then
          (match bld X.get (.pair a b) i.flds hp (parts.toList.map fun p => (p.1, (opd X ((i.flds.getD p.1 (0, 0)).2) tm p.2).cv)) (zl (.pair a b)) with
          | some ls => some (True, .v (.agg ls), hp)
          | none => none) else none
      | .arr n e => if parts.size = n then (match elems e 0 (parts.toList.map fun p => (p.1, (opd X i.elem tm p.2).cv)) with
        | some xs => some (True, .v (.one (.c (.arr n e) xs)), hp)
        | none => none) else none
      | _ => none
    | none => none
  | .buildSlice T len parts => match X.get T with
    | some i => match i.t with
      | .sl t => match X.get i.elem with
        | some j => if parts.size = len ∧ len * t.sz ≤ 16777216 then (match elems t 0 (parts.toList.map fun p => (p.1, (opd X i.elem tm p.2).cv)) with
          | some xs => some (True, .v (.one (.ref slot 0 t 0 xs.length)), hp.set slot (.live (.row t xs 0)))
          | none => none) else none
        | none => none
      | _ => none
    | none => none
  | .load T a => match loadF X T hp (opd X 0 tm a).cv.sv with
    | some r => some (True, .v r, hp)
    | none => none
  | .store T a v => match storeF X T hp (opd X T tm v).cv (opd X 0 tm a).cv.sv with
    | some hp' => some (True, .v (.one .u), hp')
    | none => none
  | .nilCheck x => match (opd X 0 tm x).cv.sv with
    | .bp id j => if (boxOf hp id).isSome then some (True, .v (.one (.bp id j)), hp) else none
    | .rp id ver t k p => if (rowOf hp id ver t).isSome then some (True, .v (.one (.rp id ver t k p)), hp) else none
    | .cp t y => some (True, .v (.one (.cp t y)), hp)
    | _ => none
  | .binOp op T x y yT => match binF X op T (opd X T tm x).cv (opd X yT tm y).cv with
    | some (p, r) => some (p, .v (.one r), hp)
    | none => none
  | .unOp op _ x => match unF op (opd X 0 tm x).cv.sv with
    | some r => some (True, .v (.one r), hp)
    | none => none
  | .convert src dst x => match convF X src dst hp (opd X src tm x).cv.sv with
    | some r => if (X.get src).isSome then some (True, .v (.one r), hp) else none
    | none => none
  | .makeSlice T l c => match X.get T, intOf (opd X 0 tm l).cv.sv, intOf (opd X 0 tm c).cv.sv with
    | some i, some n, some m => match i.t with
      | .sl t => match X.get i.elem with
        | some j => if 0 < j.bytes then some (0 ≤ n ∧ n ≤ m ∧ j.bytes * m ≤ 140737488355328, .v (.one (.ref slot 0 t 0 n.toNat)), hp.set slot (.live (.row t (List.replicate n.toNat t.z) 0))) else none
        | none => none
      | _ => none
    | _, _, _ => none
  | .slice T x lo hi mx => match oint X tm lo, oint X tm hi, oint X tm mx with
    | some l, some h, some m => match sliceF X T hp l h m (opd X T tm x).cv.sv with
      | some (p, r) => some (p, .v (.one r), hp)
      | none => none
    | _, _, _ => none
  | .fieldAddr T x f => match fieldAddrF X T f hp (opd X 0 tm x).cv.sv with
    | some r => some (True, .v (.one r), hp)
    | none => none
  | .field T x f => match fieldF X T f (opd X T tm x).cv with
    | some r => some (True, .v r, hp)
    | none => none
  | .indexAddr T x ix => match intOf (opd X 0 tm ix).cv.sv with
    | some n => match indexAddrF X T hp n (opd X T tm x).cv.sv with
      | some (p, r) => some (p, .v (.one r), hp)
      | none => none
    | none => none
  | .index T x ix => match intOf (opd X 0 tm ix).cv.sv with
    | some n => match indexF X T n (opd X T tm x).cv with
      | some (p, r) => some (p, .v (.one r), hp)
      | none => none
    | none => none
  | .extract x k => match opd X 0 tm x with
    | .tup l => match l[k]? with
      | some a => some (True, .v a, hp)
      | none => none
    | _ => none
  | .makeFunc fn first captured => match fn, first.toList, ones (captured.toList.map fun x => (opd X 0 tm x).cv) with
    | .func f, [], some caps => some (True, .v (.fn f caps), hp)
    | _, _, _ => none
  | .call c => match c.callee, c.args.toList, c.argTypes.toList with
    | .builtin .len, [x], [T] => match lenF X T hp (opd X T tm x).cv.sv with
      | some n => some (True, .v (.one (.c (.int .i64) n)), hp)
      | none => none
    | .builtin .append, [a, b], [T, T2] => match appendF X T T2 slot hp (opd X T tm a).cv.sv (opd X T2 tm b).cv.sv with
      | some (p, r, hp') => some (p, .v r, hp')
      | none => none
    | _, _, _ => none
  | _ => none

/-- Does it make something? -/
def isAl : Op → Bool
  | .alloc _ | .box .. | .buildSlice .. | .makeSlice .. => true
  | .call c => match c.callee with
    | .builtin .append => true
    | _ => false
  | _ => false

section
variable {P : Program} {X : Tbl P} {w0 : World} {S : Who} {E : Env}

theorem cv_ok {a : AV} {v : Value} (h : AVR E a v) : CVR E a.cv v := by
  cases a with
  | v a => exact h
  | tup l => trivial
theorem sv_ok {a : CV} {v : Value} (h : CVR E a v) : SVR E a.sv v := by
  cases a with
  | one a => exact h
  | _ => trivial

theorem constV_ok (T : TypeId) (v : Value) : SVR E (constV X T v) v := by
  unfold constV
  split
  · exact isInt
  · exact isBool
  · exact isStr
  · split
    · split
      · rfl
      · trivial
    · trivial
  · trivial

/-- The slots, and what they hold. -/
def TR (E : Env) (tm : List AV) (tmps : Array Value) : Prop := tm.length = tmps.size ∧ ∀ t, AVR E (tm.getD t (.v (.one .u))) (tmps.getD t undef)

theorem opd_ok {tm : List AV} {a : Act} (h : TR E tm a.tmps) (T : TypeId) (x : Operand) : AVR E (opd X T tm x) (a.eval x) := by
  cases x with
  | tmp t => exact h.2 t
  | const v => exact constV_ok T v
  | global g => trivial
  | func f => exact ⟨[], rfl, rfl⟩

theorem intOf_ok {a : SV} {n : Int} {v : Value} (h : intOf a = some n) (hv : SVR E a v) : ∃ k, v = .int k n := by
  cases a with
  | c t x =>
    cases t with
    | int k =>
      simp only [intOf, Option.some.injEq] at h
      subst h
      exact ⟨k, oneInt hv⟩
    | _ => simp [intOf] at h
  | _ => simp [intOf] at h

theorem oint_ok {tm : List AV} {a : Act} (h : TR E tm a.tmps) {x : Option Operand} {n : Option Int} (hx : oint X tm x = some n) : ∃ k, x.map a.eval = n.map (Value.int k) := by
  cases x with
  | none => simp only [oint, Option.some.injEq] at hx; subst hx; exact ⟨.i64, rfl⟩
  | some x =>
    simp only [oint, Option.map_eq_some_iff] at hx
    obtain ⟨m, hm, rfl⟩ := hx
    obtain ⟨k, hk⟩ := intOf_ok hm (sv_ok (cv_ok (opd_ok (X := X) h 0 x)))
    exact ⟨k, by simp [hk]⟩

theorem parts_ok {tm : List AV} {a : Act} (h : TR E tm a.tmps) (hint : Nat × Operand → TypeId) : ∀ (l : List (Nat × Operand)), PartsR E (l.map fun p => (p.1, (opd X (hint p) tm p.2).cv)) (l.map fun p => (p.1, a.eval p.2))
  | [] => ⟨rfl, rfl⟩
  | p :: l => by
    obtain ⟨h1, h2⟩ := parts_ok h hint l
    exact ⟨⟨_, _, rfl, ⟨_, rfl, cv_ok (opd_ok h _ _)⟩, h1⟩, by simp only [List.map_cons, h2]⟩

theorem ones_ok {tm : List AV} {a : Act} (h : TR E tm a.tmps) : ∀ (l : List Operand) (caps : List SV), ones (l.map fun x => (opd X 0 tm x).cv) = some caps → Segs (fun a cs => ∃ v, cs = [v] ∧ SVR E a v) caps (l.map a.eval)
  | [], caps, hc => by simp only [List.map_nil, ones, Option.some.injEq] at hc; subst hc; rfl
  | x :: l, caps, hc => by
    have hx := cv_ok (opd_ok (X := X) h 0 x)
    simp only [List.map_cons] at hc
    cases e : (opd X 0 tm x).cv with
    | one b =>
      rw [e] at hc hx
      simp only [ones, Option.map_eq_some_iff] at hc
      obtain ⟨cs, hcs, rfl⟩ := hc
      exact ⟨_, _, rfl, ⟨_, rfl, hx⟩, ones_ok h l cs hcs⟩
    | _ => rw [e] at hc; simp [ones] at hc

/-- What an operation comes to. -/
def OpOk (P : Program) (w0 : World) (S : Who) (E : Env) (s : Sem Next) (r : AV) (hp' : List HC) : Prop :=
  ∃ nx E', s.run P E.w = .ok nx E'.w ∧ E'.hp = hp' ∧ Le E E' ∧ HR w0 S E' ∧ ((∃ v, nx = .value v ∧ AVR E' r v) ∨ (nx = .skip ∧ r = .v (.one .u)))

theorem OpOk.of1 {s : Sem Value} {r : CV} {hp' : List HC} (h : Comes1 P w0 S E s r hp') : OpOk P w0 S E (do pure (.value (← s))) (.v r) hp' := by
  obtain ⟨v, E', h1, h2, h3, h4, h5⟩ := h
  exact ⟨.value v, E', by simp [h1], h2, h3, h4, .inl ⟨v, rfl, h5⟩⟩

theorem OpOk.pure (h : HR w0 S E) {s : Sem Value} {r : CV} (hs : ∃ z, s.run P E.w = .ok z E.w ∧ CVR E r z) : OpOk P w0 S E (do pure (.value (← s))) (.v r) E.hp := by
  obtain ⟨z, h1, h2⟩ := hs
  exact ⟨.value z, E, by simp [h1], rfl, Le.refl E, h, .inl ⟨z, rfl, h2⟩⟩

theorem fOp_ok (h : HR w0 S E) {tm : List AV} {a : Act} (ht : TR E tm a.tmps) {slot : Nat} {o : Oper} (hslot : isAl o.op = true → E.hp[slot]? = some .fresh) {p : Prop} {r : AV} {hp' : List HC} (hr : fOp X slot o tm E.hp = some (p, r, hp')) (hp : p) : OpOk P w0 S E (execOp a.eval o) r hp' := by
  have sv : ∀ T x, SVR E (opd X T tm x).cv.sv (a.eval x) := fun T x => sv_ok (cv_ok (opd_ok ht T x))
  have cv : ∀ T x, CVR E (opd X T tm x).cv (a.eval x) := fun T x => cv_ok (opd_ok ht T x)
  unfold fOp at hr
  split at hr
  · rename_i x ho
    simp only [Option.some.injEq, Prod.mk.injEq] at hr
    obtain ⟨_, rfl, rfl⟩ := hr
    exact ⟨.value (a.eval x), E, by simp [execOp, ho], rfl, Le.refl E, h, .inl ⟨_, rfl, opd_ok ht _ _⟩⟩
  · rename_i x ho
    simp only [Option.some.injEq, Prod.mk.injEq] at hr
    obtain ⟨_, rfl, rfl⟩ := hr
    exact ⟨.value (a.eval x), E, by simp [execOp, ho], rfl, Le.refl E, h, .inl ⟨_, rfl, opd_ok ht _ _⟩⟩
  · rename_i c x y ho
    split at hr
    · rename_i b hb
      simp only [Option.some.injEq, Prod.mk.injEq] at hr
      obtain ⟨_, rfl, rfl⟩ := hr
      have hc := opd_ok (X := X) ht 0 c
      rw [hb] at hc
      have hc' := oneBool hc
      refine ⟨.value (if b then a.eval x else a.eval y), E, by simp [execOp, ho, hc', asBool], rfl, Le.refl E, h, .inl ⟨_, rfl, ?_⟩⟩
      cases b
      · simpa using opd_ok ht _ y
      · simpa using opd_ok ht _ x
    · cases hr
  · rename_i T ho
    split at hr
    · rename_i i hX
      simp only [Option.some.injEq, Prod.mk.injEq] at hr
      obtain ⟨_, rfl, rfl⟩ := hr
      simp only [execOp, ho]
      exact OpOk.of1 (alloc_ok h hX (hslot (by rw [ho]; rfl)) _)
    · cases hr
  · rename_i T x ho
    split at hr
    · rename_i i hX
      split at hr
      · rename_i l hl
        split at hr
        · rename_i hlive
          simp only [Option.some.injEq, Prod.mk.injEq] at hr
          obtain ⟨_, rfl, rfl⟩ := hr
          simp only [execOp, ho]
          exact OpOk.of1 (box_ok h hX (hslot (by rw [ho]; rfl)) (cv T x) hl hlive)
        · cases hr
      · cases hr
    · cases hr
  · rename_i T parts ho
    split at hr
    · rename_i i hX
      split at hr
      · rename_i u v ht'
        split at hr
        · rename_i hfl
          split at hr
          · rename_i ls hls
            simp only [Option.some.injEq, Prod.mk.injEq] at hr
            obtain ⟨_, rfl, rfl⟩ := hr
            simp only [execOp, ho]
            rw [← ht'] at hls
            refine OpOk.pure h (build_ok h hX (by rw [ht']; rfl) ⟨u, v, ht'⟩ (fun f o' u' hf => ?_) hls (by simpa using parts_ok ht _ parts.toList))
            have := List.all_eq_true.1 hfl _ (List.mem_of_getElem? hf)
            exact this
          · cases hr
        · cases hr
      · rename_i n e ht'
        split at hr
        · rename_i hsz
          split at hr
          · rename_i xs hxs
            simp only [Option.some.injEq, Prod.mk.injEq] at hr
            obtain ⟨_, rfl, rfl⟩ := hr
            simp only [execOp, ho]
            exact OpOk.pure h (buildArr_ok hX ht' hxs (by simpa using hsz) (by simpa using parts_ok ht (fun _ => i.elem) parts.toList))
          · cases hr
        · cases hr
      · cases hr
    · cases hr
  · rename_i T len parts ho
    split at hr
    · rename_i i hX
      split at hr
      · rename_i t ht'
        split at hr
        · rename_i j hj
          split at hr
          · rename_i hc
            obtain ⟨hc1, hc2⟩ := hc
            split at hr
            · rename_i xs hxs
              simp only [Option.some.injEq, Prod.mk.injEq] at hr
              obtain ⟨_, rfl, rfl⟩ := hr
              simp only [execOp, ho]
              exact OpOk.of1 (buildSlice_ok h hX ht' hj (hslot (by rw [ho]; rfl)) hxs (by simpa using hc1) hc2 (by simpa using parts_ok ht (fun _ => i.elem) parts.toList))
            · cases hr
          · cases hr
        · cases hr
      · cases hr
    · cases hr
  · rename_i T x ho
    split at hr
    · rename_i q hq
      simp only [Option.some.injEq, Prod.mk.injEq] at hr
      obtain ⟨_, rfl, rfl⟩ := hr
      simp only [execOp, ho]
      exact OpOk.pure h (loadF_ok h (sv 0 x) hq)
    · cases hr
  · rename_i T x y ho
    split at hr
    · rename_i hp'' hq
      simp only [Option.some.injEq, Prod.mk.injEq] at hr
      obtain ⟨_, rfl, rfl⟩ := hr
      obtain ⟨E', h1, h2, h3, h4⟩ := storeF_ok h (sv 0 x) (cv T y) hq
      exact ⟨.skip, E', by simp [execOp, ho, h1], h2, h3, h4, .inr ⟨rfl, rfl⟩⟩
    · cases hr
  · rename_i x ho
    have hx := sv 0 x
    split at hr
    · rename_i id j e
      split at hr
      · rename_i hl
        simp only [Option.some.injEq, Prod.mk.injEq] at hr
        obtain ⟨_, rfl, rfl⟩ := hr
        rw [e] at hx
        obtain ⟨ls, hls⟩ := Option.isSome_iff_exists.1 hl
        obtain ⟨_, l, _, hv⟩ := hx.2 ls (boxOf_some hls)
        exact ⟨.value (a.eval x), E, by simp only [execOp, ho, hv]; rfl, rfl, Le.refl E, h, .inl ⟨_, rfl, hx⟩⟩
      · cases hr
    · rename_i id ver t k q e
      split at hr
      · rename_i hl
        simp only [Option.some.injEq, Prod.mk.injEq] at hr
        obtain ⟨_, rfl, rfl⟩ := hr
        rw [e] at hx
        obtain ⟨ls, hls⟩ := Option.isSome_iff_exists.1 hl
        obtain ⟨_, l, _, d, t', _, hv⟩ := (hx.2 ls ver (rowOf_some hls)).2 rfl
        exact ⟨.value (a.eval x), E, by simp only [execOp, ho, hv]; rfl, rfl, Le.refl E, h, .inl ⟨_, rfl, hx⟩⟩
      · cases hr
    · rename_i t y e
      simp only [Option.some.injEq, Prod.mk.injEq] at hr
      obtain ⟨_, rfl, rfl⟩ := hr
      rw [e] at hx
      have hx' := hx
      obtain ⟨b, o', cs, hv, _⟩ := hx
      exact ⟨.value (a.eval x), E, by simp only [execOp, ho, hv]; rfl, rfl, Le.refl E, h, .inl ⟨_, rfl, hx'⟩⟩
    · cases hr
  · rename_i op T x y yT ho
    split at hr
    · rename_i q s hq
      simp only [Option.some.injEq, Prod.mk.injEq] at hr
      obtain ⟨rfl, rfl, rfl⟩ := hr
      simp only [execOp, ho]
      exact OpOk.pure h (binF_ok hq hp (cv T x) (cv yT y) x y)
    · cases hr
  · rename_i op T x ho
    split at hr
    · rename_i q hq
      simp only [Option.some.injEq, Prod.mk.injEq] at hr
      obtain ⟨_, rfl, rfl⟩ := hr
      simp only [execOp, ho]
      exact OpOk.pure h (unF_ok hq (sv 0 x))
    · cases hr
  · rename_i src dst x ho
    split at hr
    · rename_i q hq
      split at hr
      · rename_i hs
        simp only [Option.some.injEq, Prod.mk.injEq] at hr
        obtain ⟨_, rfl, rfl⟩ := hr
        simp only [execOp, ho]
        refine OpOk.pure h (convF_ok h hq ?_ (sv src x))
        obtain ⟨i, hi⟩ := Option.isSome_iff_exists.1 hs
        have hu := (X.ok _ i hi).und
        revert hu
        cases i.t with
        | unit => exact fun ⟨⟨fs, h⟩, _⟩ => ⟨_, h⟩
        | pair a b => exact fun ⟨fs, h, _⟩ => ⟨_, h⟩
        | arr n e => exact fun h => ⟨_, h.1⟩
        | sl e => exact fun h => ⟨_, h.1⟩
        | _ => exact fun h => ⟨_, h⟩
      · cases hr
    · cases hr
  · rename_i T l c ho
    split at hr
    · rename_i i n m hX hn hm
      split at hr
      · rename_i t ht'
        split at hr
        · rename_i j hj
          split at hr
          · rename_i hb
            simp only [Option.some.injEq, Prod.mk.injEq] at hr
            obtain ⟨rfl, rfl, rfl⟩ := hr
            obtain ⟨h0, h1, h2⟩ := hp
            obtain ⟨k, hk⟩ := intOf_ok hn (sv 0 l)
            obtain ⟨k', hk'⟩ := intOf_ok hm (sv 0 c)
            simp only [execOp, ho, hk, hk']
            exact OpOk.of1 (makeSlice_ok h hX ht' hj (hslot (by rw [ho]; rfl)) n m k k' h0 h1 h2 hb)
          · cases hr
        · cases hr
      · cases hr
    · cases hr
  · rename_i T x lo hi mx ho
    split at hr
    · rename_i l g m hl hg hm
      split at hr
      · rename_i q s hq
        simp only [Option.some.injEq, Prod.mk.injEq] at hr
        obtain ⟨rfl, rfl, rfl⟩ := hr
        obtain ⟨k1, e1⟩ := oint_ok ht hl
        obtain ⟨k2, e2⟩ := oint_ok ht hg
        obtain ⟨k3, e3⟩ := oint_ok ht hm
        simp only [execOp, ho, e1, e2, e3]
        exact OpOk.pure h (sliceF_ok h hq hp (sv T x) k1 k2 k3)
      · cases hr
    · cases hr
  · rename_i T x f ho
    split at hr
    · rename_i q hq
      simp only [Option.some.injEq, Prod.mk.injEq] at hr
      obtain ⟨_, rfl, rfl⟩ := hr
      simp only [execOp, ho]
      exact OpOk.pure h (fieldAddrF_ok h (sv 0 x) hq)
    · cases hr
  · rename_i T x f ho
    split at hr
    · rename_i q hq
      simp only [Option.some.injEq, Prod.mk.injEq] at hr
      obtain ⟨_, rfl, rfl⟩ := hr
      simp only [execOp, ho]
      exact OpOk.pure h (fieldF_ok hq (cv T x))
    · cases hr
  · rename_i T x ix ho
    split at hr
    · rename_i n hn
      split at hr
      · rename_i q s hq
        simp only [Option.some.injEq, Prod.mk.injEq] at hr
        obtain ⟨rfl, rfl, rfl⟩ := hr
        obtain ⟨k, hk⟩ := intOf_ok hn (sv 0 ix)
        simp only [execOp, ho, hk]
        exact OpOk.pure h (indexAddrF_ok h (sv T x) hq hp k)
      · cases hr
    · cases hr
  · rename_i T x ix ho
    split at hr
    · rename_i n hn
      split at hr
      · rename_i q s hq
        simp only [Option.some.injEq, Prod.mk.injEq] at hr
        obtain ⟨rfl, rfl, rfl⟩ := hr
        obtain ⟨k, hk⟩ := intOf_ok hn (sv 0 ix)
        simp only [execOp, ho, hk]
        exact OpOk.pure h (indexF_ok hq hp (cv T x))
      · cases hr
    · cases hr
  · rename_i x k ho
    have hx := opd_ok (X := X) ht 0 x
    split at hr
    · rename_i l hl
      split at hr
      · rename_i b hb
        simp only [Option.some.injEq, Prod.mk.injEq] at hr
        obtain ⟨_, rfl, rfl⟩ := hr
        rw [hl] at hx
        obtain ⟨vs, hv, hs⟩ := hx
        have key : ∀ (l : List CV) (vs : List Value) (k : Nat) (b : CV), Segs (fun a cs => ∃ v, cs = [v] ∧ CVR E a v) l vs → l[k]? = some b → ∃ v, vs[k]? = some v ∧ CVR E b v := by
          intro l
          induction l with
          | nil => intro vs k b _ h; simp at h
          | cons c l ih =>
            intro vs k b ⟨c1, c2, e, ⟨v, e1, hv⟩, hs⟩ hk
            subst e e1
            cases k with
            | zero => simp only [List.getElem?_cons_zero, Option.some.injEq] at hk; subst hk; exact ⟨v, rfl, hv⟩
            | succ k => simpa using ih c2 k b hs (by simpa using hk)
        obtain ⟨v, h1, h2⟩ := key l vs k b hs hb
        refine ⟨.value v, E, ?_, rfl, Le.refl E, h, .inl ⟨v, rfl, h2⟩⟩
        simp [execOp, ho, hv, Instr.extract, h1]
      · cases hr
    · cases hr
  · rename_i fn first captured ho
    split at hr
    · rename_i f caps hf hcaps
      simp only [Option.some.injEq, Prod.mk.injEq] at hr
      obtain ⟨_, rfl, rfl⟩ := hr
      have hfirst : first = #[] := by simpa using hf
      subst hfirst
      refine ⟨.value (.func (.func f) #[] (captured.map a.eval)), E, by simp [execOp, ho, Instr.makeFunc], rfl, Le.refl E, h, .inl ⟨_, rfl, captured.toList.map a.eval, by congr 1; apply Array.ext'; simp, ones_ok ht _ _ hcaps⟩⟩
    · cases hr
  · rename_i c ho
    split at hr
    · rename_i x T hcal hargs htys
      split at hr
      · rename_i n hn
        simp only [Option.some.injEq, Prod.mk.injEq] at hr
        obtain ⟨_, rfl, rfl⟩ := hr
        have e1 : c.args = #[x] := by rw [← Array.toArray_toList (xs := c.args), hargs]
        have e2 : c.argTypes = #[T] := by rw [← Array.toArray_toList (xs := c.argTypes), htys]
        refine ⟨.value (.int .i64 n), E, ?_, rfl, Le.refl E, h, .inl ⟨_, rfl, isInt⟩⟩
        simp [execOp, ho, resolve, hcal, e1, e2, invoke, builtin, lenF_ok h hn (sv T x) o.type]
      · cases hr
    · rename_i x y T T2 hcal hargs htys
      split at hr
      · rename_i q s hp'' hq
        simp only [Option.some.injEq, Prod.mk.injEq] at hr
        obtain ⟨rfl, rfl, rfl⟩ := hr
        have e1 : c.args = #[x, y] := by rw [← Array.toArray_toList (xs := c.args), hargs]
        have e2 : c.argTypes = #[T, T2] := by rw [← Array.toArray_toList (xs := c.argTypes), htys]
        obtain ⟨v, E', h1, h2, h3, h4, h5⟩ := appendF_ok h (hslot (by rw [ho]; simp only [isAl, hcal])) (sv T x) (sv T2 y) hq hp o.type
        refine ⟨.value v, E', ?_, h2, h3, h4, .inl ⟨_, rfl, h5⟩⟩
        simp [execOp, ho, resolve, hcal, e1, e2, invoke, builtin, h1]
      · cases hr
    · cases hr
  · cases hr
end
end Go.Proofs.Ytgkjgpiggjjmpaa.Ev
