/- Lemmas for the claim: Operations on plain values. (no condition.) -/
import Derived.Test.YtgkjgpiggjjmpaaEv10
/-! Operations on plain values. -/
namespace Go.Proofs.Ytgkjgpiggjjmpaa.Ev
open Go
set_option linter.unusedVariables false

def bitI (op : BinOp) (k : IntKind) (x y : Int) : Int :=
  k.wrap (match op with
    | .and => (BitVec.ofInt k.bits x &&& BitVec.ofInt k.bits y).toNat
    | .or => (BitVec.ofInt k.bits x ||| BitVec.ofInt k.bits y).toNat
    | .xor => (BitVec.ofInt k.bits x ^^^ BitVec.ofInt k.bits y).toNat
    | _ => (BitVec.ofInt k.bits x &&& ~~~BitVec.ofInt k.bits y).toNat : Nat)

def binI (op : BinOp) (k : IntKind) (x y : Int) : Option (Prop × SV) :=
  match op with
  | .add => some (True, .c (.int k) (k.wrap (x + y)))
  | .sub => some (True, .c (.int k) (k.wrap (x - y)))
  | .mul => some (True, .c (.int k) (k.wrap (x * y)))
  | .quo => some (y ≠ 0, .c (.int k) (k.wrap (x.tdiv y)))
  | .rem => some (y ≠ 0, .c (.int k) (x.tmod y))
  | .and => some (True, .c (.int k) (bitI .and k x y))
  | .or => some (True, .c (.int k) (bitI .or k x y))
  | .xor => some (True, .c (.int k) (bitI .xor k x y))
  | .andNot => some (True, .c (.int k) (bitI .andNot k x y))
  | .eql => some (True, .c .bool (x == y))
  | .neq => some (True, .c .bool (x != y))
  | .lss => some (True, .c .bool (decide (x < y)))
  | .leq => some (True, .c .bool (decide (x ≤ y)))
  | .gtr => some (True, .c .bool (decide (x > y)))
  | .geq => some (True, .c .bool (decide (x ≥ y)))
  | _ => none

def shI (op : BinOp) (k : IntKind) (x y : Int) : Option (Prop × SV) :=
  match op with
  | .shl => some (¬ y < 0, .c (.int k) (k.wrap (x * 2 ^ (min y.toNat k.bits))))
  | .shr => some (¬ y < 0, .c (.int k) (x.fdiv (2 ^ (min y.toNat k.bits))))
  | _ => none

def isSh : BinOp → Bool
  | .shl | .shr => true
  | _ => false

def binF {P : Program} (X : Tbl P) (op : BinOp) (T : TypeId) (a b : CV) : Option (Prop × SV) :=
  match a, b with
  | .one (.c (.int k) x), .one (.c (.int k') y) => if isSh op then shI op k x y else if k = k' then binI op k x y else none
  | .one (.c .bool x), .one (.c .bool y) => match X.get T with
    | some i => if i.t = .bool then (match op with
      | .eql => some (True, .c .bool (x == y))
      | .neq => some (True, .c .bool (x != y))
      | _ => none) else none
    | none => none
  | .one (.c .str x), .one (.c .str y) => match op with
    | .eql => some (True, .c .bool (ByteArray.toList x == ByteArray.toList y))
    | .neq => some (True, .c .bool (!(ByteArray.toList x == ByteArray.toList y)))
    | .add => some (ByteArray.size x + ByteArray.size y ≤ 9223372036854775807, .c .str (ByteArray.append x y))
    | _ => none
  | a, b => match X.get T with
    | some i => if X.eq T = true ∧ i.t.isAgg = true then (match toT i.t a, toT i.t b with
      | some x, some y => (match op with
        | .eql => some (True, .c .bool (i.t.eqb x y))
        | .neq => some (True, .c .bool (!(i.t.eqb x y)))
        | _ => none)
      | _, _ => none) else none
    | none => none

def unF (op : UnOp) : SV → Option SV
  | .c .bool x => match op with
    | .not => some (.c .bool (!x))
    | _ => none
  | .c (.int k) x => match op with
    | .neg => some (.c (.int k) (k.wrap (0 - (x : Int))))
    | .xor => some (.c (.int k) (bitI .xor k (if k.signed then -1 else k.max) x))
    | _ => none
  | _ => none

section
variable {P : Program} {X : Tbl P} {E : Env} {T : TypeId}

theorem oneInt {k : IntKind} {x : Int} {v : Value} (h : CVR E (.one (.c (.int k) x)) v) : v = .int k x := by
  obtain ⟨cs, hk, rfl⟩ := h
  have : cs = [.int k x] := hk
  subst this; rfl
theorem oneBool {x : Bool} {v : Value} (h : CVR E (.one (.c .bool x)) v) : v = .bool x := by
  obtain ⟨cs, hk, rfl⟩ := h
  have : cs = [.bool x] := hk
  subst this; rfl
theorem oneStr {x : ByteArray} {v : Value} (h : CVR E (.one (.c .str x)) v) : v = .string x := by
  obtain ⟨cs, hk, rfl⟩ := h
  have : cs = [.string x] := hk
  subst this; rfl
theorem isInt {k : IntKind} {x : Int} : CVR E (.one (.c (.int k) x)) (.int k x) := ⟨_, rfl, rfl⟩
theorem isBool {x : Bool} : CVR E (.one (.c .bool x)) (.bool x) := ⟨_, rfl, rfl⟩
theorem isStr {x : ByteArray} : CVR E (.one (.c .str x)) (.string x) := ⟨_, rfl, rfl⟩

theorem eqGuard_int (op : BinOp) (x y : Operand) (k k' : IntKind) (a b : Int) (w : World) : (eqGuard op T x y (.int k a) (.int k' b)).run P w = .ok () w := by
  cases op <;> rfl
theorem eqGuard_bool (op : BinOp) (x y : Operand) (a b : Bool) (w : World) : (eqGuard op T x y (.bool a) (.bool b)).run P w = .ok () w := by
  cases op <;> rfl
theorem eqGuard_str (op : BinOp) (x y : Operand) (a b : ByteArray) (w : World) : (eqGuard op T x y (.string a) (.string b)).run P w = .ok () w := by
  cases op <;> rfl
theorem eqGuard_agg (h : P.eqGuardType P.depth T = false) (op : BinOp) (x y : Operand) (a b : Array Value) (w : World) : (eqGuard op T x y (.agg a) (.agg b)).run P w = .ok () w := by
  cases op <;> simp [eqGuard, h]

theorem binI_ok {op : BinOp} {k : IntKind} {x y : Int} {p : Prop} {r : SV} (hs : isSh op = false) (h : binI op k x y = some (p, r)) (hp : p) : ∃ u, (binOp op T (.int k x) (.int k y)).run P E.w = .ok u E.w ∧ CVR E (.one r) u := by
  cases op <;> simp only [binI, Option.some.injEq, Prod.mk.injEq, reduceCtorEq, isSh] at h hs <;> (try (cases hs; done)) <;> obtain ⟨rfl, rfl⟩ := h <;>
    first
    | (refine ⟨_, ?_, isInt⟩; simp [binOp, Op.intArith, Op.intBits, bitI]; done)
    | (refine ⟨_, ?_, isBool⟩; simp [binOp, Op.intCmp]; done)
    | (refine ⟨_, ?_, isInt⟩; simp [binOp, Op.intDiv, show y ≠ 0 from hp]; done)

theorem shI_ok {op : BinOp} {k k' : IntKind} {x y : Int} {p : Prop} {r : SV} (h : shI op k x y = some (p, r)) (hp : p) : ∃ u, (binOp op T (.int k x) (.int k' y)).run P E.w = .ok u E.w ∧ CVR E (.one r) u := by
  cases op <;> simp only [shI, Option.some.injEq, Prod.mk.injEq, reduceCtorEq] at h <;> obtain ⟨rfl, rfl⟩ := h <;>
    (refine ⟨_, ?_, isInt⟩; simp only [binOp, Op.shift]; rw [if_neg hp]; rfl)

theorem equal_bool (h : P.underlying T = some .bool) (a b : Bool) (w : World) : (Op.equal T (.bool a) (.bool b)).run P w = .ok (a == b) w := by
  have e : Op.equal T (.bool a) (.bool b) = Op.equalIn (9999 + 1) T (.bool a) (.bool b) := rfl
  rw [e]
  generalize 9999 = d
  simp only [Op.equalIn, Sem.run_bind, run_underlying h, Result.andThen_ok, Sem.run_pure]

theorem toT_val {t : Ty} {a : CV} {x : t.D} {v : Value} (ht : t.isAgg = true) (h : toT t a = some x) (hv : CVR E a v) : ∃ cs, KC E.w E.F t x cs ∧ v = mkv t cs := by
  cases a with
  | one b =>
    cases b with
    | c t' y =>
      have h' : (if h : t' = t then some (cast (congrArg Ty.D h) y) else none) = some x := by cases t <;> exact h
      split at h'
      · rename_i e
        subst e
        simp only [cast_eq, Option.some.injEq] at h'
        subst h'
        exact hv
      · cases h'
    | nl t' => cases t <;> simp [toT, Ty.isAgg] at h ht
    | _ => cases t <;> simp [toT] at h
  | agg l =>
    obtain ⟨cs, hk, hcs⟩ := toT_ok h hv
    obtain ⟨ds, _, rfl⟩ := hv
    exact ⟨cs, hk, by simp [mkv, ht, ← hcs, Value.cells]⟩
  | fn f caps => cases t <;> simp [toT] at h

theorem binF_ok {op : BinOp} {a b : CV} {v u : Value} {p : Prop} {r : SV} (h : binF X op T a b = some (p, r)) (hp : p) (hv : CVR E a v) (hu : CVR E b u) (x y : Operand) :
    ∃ z, (do eqGuard op T x y v u; binOp op T v u : Sem Value).run P E.w = .ok z E.w ∧ CVR E (.one r) z := by
  unfold binF at h
  split at h
  · rename_i k n k' m
    rw [oneInt hv, oneInt hu]
    simp only [Sem.run_bind, eqGuard_int, Result.andThen_ok]
    split at h
    · exact shI_ok h hp
    · rename_i hs
      split at h
      · rename_i e
        subst e
        exact binI_ok (by simpa using hs) h hp
      · cases h
  · rename_i n m
    rw [oneBool hv, oneBool hu]
    simp only [Sem.run_bind, eqGuard_bool, Result.andThen_ok]
    split at h
    · rename_i i hX
      split at h
      · rename_i ht
        have hund := (X.ok T i hX).und
        rw [ht] at hund
        split at h
        · simp only [Option.some.injEq, Prod.mk.injEq] at h
          obtain ⟨rfl, rfl⟩ := h
          exact ⟨_, by simp only [binOp, Sem.run_bind, equal_bool hund, Result.andThen_ok, Sem.run_pure], isBool⟩
        · simp only [Option.some.injEq, Prod.mk.injEq] at h
          obtain ⟨rfl, rfl⟩ := h
          exact ⟨_, by simp only [binOp, Sem.run_bind, equal_bool hund, Result.andThen_ok, Sem.run_pure]; rfl, isBool⟩
        · cases h
      · cases h
    · cases h
  · rename_i n m
    rw [oneStr hv, oneStr hu]
    simp only [Sem.run_bind, eqGuard_str, Result.andThen_ok]
    split at h
    · simp only [Option.some.injEq, Prod.mk.injEq] at h
      obtain ⟨rfl, rfl⟩ := h
      exact ⟨_, by simp [binOp, Op.stringOp], isBool⟩
    · simp only [Option.some.injEq, Prod.mk.injEq] at h
      obtain ⟨rfl, rfl⟩ := h
      exact ⟨_, by simp [binOp, Op.stringOp], isBool⟩
    · simp only [Option.some.injEq, Prod.mk.injEq] at h
      obtain ⟨rfl, rfl⟩ := h
      refine ⟨_, ?_, isStr⟩
      simp only [binOp, Op.stringOp, Sem.run_ite]
      rw [if_neg]
      · rfl
      · have h1 : IntKind.i64.max = 9223372036854775807 := rfl
        intro hc
        rw [h1] at hc
        have h2 : ByteArray.size n + ByteArray.size m ≤ 9223372036854775807 := hp
        omega
    · cases h
  · split at h
    · rename_i i hX
      split at h
      · rename_i hc
        obtain ⟨heq, hagg⟩ := hc
        obtain ⟨hg, hrun⟩ := X.eqok T i hX heq
        split at h
        · rename_i n m hn hm
          obtain ⟨cs, hk, rfl⟩ := toT_val hagg hn hv
          obtain ⟨ds, hl, rfl⟩ := toT_val hagg hm hu
          have he := hrun n m E.w E.F cs ds hk hl
          simp only [mkv, hagg, if_true] at he ⊢
          simp only [Sem.run_bind, eqGuard_agg hg, Result.andThen_ok]
          split at h
          · simp only [Option.some.injEq, Prod.mk.injEq] at h
            obtain ⟨rfl, rfl⟩ := h
            exact ⟨_, by simp only [binOp, Sem.run_bind, he, Result.andThen_ok, Sem.run_pure], isBool⟩
          · simp only [Option.some.injEq, Prod.mk.injEq] at h
            obtain ⟨rfl, rfl⟩ := h
            exact ⟨_, by simp only [binOp, Sem.run_bind, he, Result.andThen_ok, Sem.run_pure], isBool⟩
          · cases h
        · cases h
      · cases h
    · cases h
end
end Go.Proofs.Ytgkjgpiggjjmpaa.Ev
