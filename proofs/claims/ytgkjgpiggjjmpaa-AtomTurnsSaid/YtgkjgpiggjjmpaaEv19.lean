/- Lemmas for the claim: How a walk is made: rules for 'simp only', and for loops. (no condition.) -/
import Derived.Test.YtgkjgpiggjjmpaaEv18
/-! How a walk is made: rules for 'simp only', and for loops. -/
namespace Go.Proofs.Ytgkjgpiggjjmpaa.Ev
open Go
set_option linter.unusedVariables false

section
variable {P : Program} {X : Tbl P} {M : Mode P} {D : DrawP P} {n : Nat}
@[congr] theorem evC_c {c : Code} {st st' : St} {K : Ex → St → Prop} (h : st = st') : evC X M D n c st K = evC X M D n c st' K := by rw [h]
@[congr] theorem evOps_c {ops l : List Oper} {slot slot' : Nat} {st st' : St} {K : St → Prop} (h : st = st') (h2 : slot = slot') : evOps X M ops l slot st K = evOps X M ops l slot' st' K := by rw [h, h2]
@[congr] theorem evOp_c {o : Oper} {slot slot' : Nat} {st st' : St} {K : St → Prop} (h : st = st') (h2 : slot = slot') : evOp X M slot o st K = evOp X M slot' o st' K := by rw [h, h2]
@[congr] theorem evOp1_c {o : Oper} {slot slot' : Nat} {st st' : St} {K : St → Prop} (h : st = st') (h2 : slot = slot') : evOp1 X M slot o st K = evOp1 X M slot' o st' K := by rw [h, h2]
theorem evOp_eq {o : Oper} {slot : Nat} {st : St} {K : St → Prop} : evOp X M slot o st K = evOp1 X M slot o (prep X o st) K := rfl
def stF {P : Program} (X : Tbl P) (M : Mode P) (slot : Nat) (o : Oper) (tm : List AV) (hp : List HC) (K : St → Prop) : Option (Prop × AV × List HC) → Prop
  | some (p, r, hp') => p ∧ (isAl o.op = true → hp[slot]? = some .fresh) ∧ (know X o tm r → K ⟨putA tm o.dst r, hp'⟩)
  | none => evOp1 X M slot o ⟨tm, hp⟩ K
def stC {P : Program} (X : Tbl P) (M : Mode P) (c : Call) (o : Oper) (tm : List AV) (hp : List HC) (K : St → Prop) : AV → Prop
  | .v (.fn k caps) => c.args.size = c.argTypes.size ∧ M k (((c.args.toList.zip c.argTypes.toList).map fun x => (opd X x.2 tm x.1).cv) ++ caps.map CV.one) hp fun r hp' => K ⟨putA tm o.dst r, hp'⟩
  | _ => False
def isFun (o : Oper) : Bool := match o.op with
  | .call c => match c.callee with
    | .builtin _ => true
    | _ => false
  | .binOp .eql _ _ (.const (.slice none 0 0)) _ => false
  | _ => true
theorem evOp1_fun {o : Oper} {slot : Nat} {tm : List AV} {hp : List HC} {K : St → Prop} (h : isFun o = true) : evOp1 X M slot o ⟨tm, hp⟩ K = stF X M slot o tm hp K (fOp X slot o tm hp) := by
  cases hf : fOp X slot o tm hp with
  | none => rfl
  | some q => obtain ⟨p, r, hp'⟩ := q; simp only [evOp1, hf, stF]
theorem evOp1_call0 {dst : Option Tmp} {c : Call} {f : Operand} {ar : Array Operand} {at' : Array TypeId} {ty : TypeId} {pos : String} {af : Array Edge} {g : Option (Nat × Bool)} {slot : Nat} {tm : List AV} {hp : List HC} {K : St → Prop} :
    evOp1 X M slot ⟨dst, .call ⟨.value f, ar, at'⟩, ty, pos, af, g⟩ ⟨tm, hp⟩ K = stC X M ⟨.value f, ar, at'⟩ ⟨dst, .call ⟨.value f, ar, at'⟩, ty, pos, af, g⟩ tm hp K (opd X 0 tm f) := rfl
theorem evOp1_nil0 {dst : Option Tmp} {T yT : TypeId} {x : Operand} {ty : TypeId} {pos : String} {af : Array Edge} {g : Option (Nat × Bool)} {slot : Nat} {tm : List AV} {hp : List HC} {K : St → Prop} :
    evOp1 X M slot ⟨dst, .binOp .eql T x (.const (.slice none 0 0)) yT, ty, pos, af, g⟩ ⟨tm, hp⟩ K =
    (match fOp X slot ⟨dst, .binOp .eql T x (.const (.slice none 0 0)) yT, ty, pos, af, g⟩ tm hp with
    | some (p, r, hp') => p ∧ (False → hp[slot]? = some .fresh) ∧ (True → K ⟨putA tm dst r, hp'⟩)
    | none => match X.get T, evOp1.rowLen hp (opd X T tm x).cv.sv with
      | some i, some n => if isSl i.t then ∀ b : Bool, (b = true → n = 0) → K ⟨putA tm dst (.v (.one (.c .bool b))), hp⟩ else False
      | _, _ => False) := by
  simp only [evOp1, know, isAl, Bool.false_eq_true]
  rfl
def stN {P : Program} (X : Tbl P) (M : Mode P) (slot : Nat) (o : Oper) (tm : List AV) (hp : List HC) (K : St → Prop) : Prop := evOp1 X M slot o ⟨tm, hp⟩ K
def stI {P : Program} (X : Tbl P) (M : Mode P) (slot : Nat) (o : Oper) (tm : List AV) (hp : List HC) (K : St → Prop) : Bool → Prop
  | true => stF X M slot o tm hp K (fOp X slot o tm hp)
  | false => stN X M slot o tm hp K
theorem evOp1_stI {o : Oper} {slot : Nat} {tm : List AV} {hp : List HC} {K : St → Prop} : evOp1 X M slot o ⟨tm, hp⟩ K = stI X M slot o tm hp K (isFun o) := by
  cases h : isFun o with
  | true => exact evOp1_fun h
  | false => rfl
@[congr] theorem stI_c {o : Oper} {slot : Nat} {tm : List AV} {hp : List HC} {K : St → Prop} {b b' : Bool} (h : b = b') : stI X M slot o tm hp K b = stI X M slot o tm hp K b' := by rw [h]
@[congr] theorem stN_c {o : Oper} {slot : Nat} {tm tm' : List AV} {hp : List HC} {K : St → Prop} (h : tm = tm') : stN X M slot o tm hp K = stN X M slot o tm' hp K := by rw [h]
theorem stI_true {o : Oper} {slot : Nat} {tm : List AV} {hp : List HC} {K : St → Prop} : stI X M slot o tm hp K true = stF X M slot o tm hp K (fOp X slot o tm hp) := rfl
theorem stI_false {o : Oper} {slot : Nat} {tm : List AV} {hp : List HC} {K : St → Prop} : stI X M slot o tm hp K false = stN X M slot o tm hp K := rfl
@[congr] theorem stF_c {slot : Nat} {o : Oper} {tm : List AV} {hp : List HC} {K : St → Prop} {q q' : Option (Prop × AV × List HC)} (h : q = q') : stF X M slot o tm hp K q = stF X M slot o tm hp K q' := by rw [h]
@[congr] theorem stC_c {c : Call} {o : Oper} {tm : List AV} {hp : List HC} {K : St → Prop} {q q' : AV} (h : q = q') : stC X M c o tm hp K q = stC X M c o tm hp K q' := by rw [h]
theorem stN_call {dst : Option Tmp} {c : Call} {f : Operand} {ar : Array Operand} {at' : Array TypeId} {ty : TypeId} {pos : String} {af : Array Edge} {g : Option (Nat × Bool)} {slot : Nat} {tm : List AV} {hp : List HC} {K : St → Prop} :
    stN X M slot ⟨dst, .call ⟨.value f, ar, at'⟩, ty, pos, af, g⟩ tm hp K = stC X M ⟨.value f, ar, at'⟩ ⟨dst, .call ⟨.value f, ar, at'⟩, ty, pos, af, g⟩ tm hp K (opd X 0 tm f) := rfl
theorem stN_nil {dst : Option Tmp} {T yT : TypeId} {x : Operand} {ty : TypeId} {pos : String} {af : Array Edge} {g : Option (Nat × Bool)} {slot : Nat} {tm : List AV} {hp : List HC} {K : St → Prop} :
    stN X M slot ⟨dst, .binOp .eql T x (.const (.slice none 0 0)) yT, ty, pos, af, g⟩ tm hp K =
    (match fOp X slot ⟨dst, .binOp .eql T x (.const (.slice none 0 0)) yT, ty, pos, af, g⟩ tm hp with
    | some (p, r, hp') => p ∧ (False → hp[slot]? = some .fresh) ∧ (True → K ⟨putA tm dst r, hp'⟩)
    | none => match X.get T, evOp1.rowLen hp (opd X T tm x).cv.sv with
      | some i, some n => if isSl i.t then ∀ b : Bool, (b = true → n = 0) → K ⟨putA tm dst (.v (.one (.c .bool b))), hp⟩ else False
      | _, _ => False) := evOp1_nil0
theorem stF_some {slot : Nat} {o : Oper} {tm : List AV} {hp hp' : List HC} {K : St → Prop} {p : Prop} {r : AV} : stF X M slot o tm hp K (some (p, r, hp')) = (p ∧ (isAl o.op = true → hp[slot]? = some .fresh) ∧ (know X o tm r → K ⟨putA tm o.dst r, hp'⟩)) := rfl
theorem stC_fn {c : Call} {o : Oper} {tm : List AV} {hp : List HC} {K : St → Prop} {k : Nat} {caps : List SV} : stC X M c o tm hp K (.v (.fn k caps)) = (c.args.size = c.argTypes.size ∧ M k (((c.args.toList.zip c.argTypes.toList).map fun x => (opd X x.2 tm x.1).cv) ++ caps.map CV.one) hp fun r hp' => K ⟨putA tm o.dst r, hp'⟩) := rfl

def stV {P : Program} (X : Tbl P) (M : Mode P) (ops : List Oper) (o : Oper) (rest : List Oper) (slot : Nat) (want : Bool) (d : Nat) (st : St) (K : St → Prop) : Option AV → Prop
  | some (.v (.one (.c .bool x))) => (match (x : Bool) with
    | true => if want then evOp X M slot o ⟨st.tm.set d (.v (.one (.c .bool true))), st.hp⟩ fun st' => evOps X M ops rest (slot + if isAl o.op then 1 else 0) st' K
        else evOps X M ops rest (slot + if isAl o.op then 1 else 0) ⟨putA (st.tm.set d (.v (.one (.c .bool true)))) o.dst (.tup []), st.hp⟩ K
    | false => if want then evOps X M ops rest (slot + if isAl o.op then 1 else 0) ⟨putA (st.tm.set d (.v (.one (.c .bool false)))) o.dst (.tup []), st.hp⟩ K
        else evOp X M slot o ⟨st.tm.set d (.v (.one (.c .bool false))), st.hp⟩ fun st' => evOps X M ops rest (slot + if isAl o.op then 1 else 0) st' K)
  | some (.tup []) => evOps X M ops rest (slot + if isAl o.op then 1 else 0) ⟨putA st.tm o.dst (.tup []), st.hp⟩ K
  | _ => False
def stD {P : Program} (X : Tbl P) (M : Mode P) (ops : List Oper) (o : Oper) (rest : List Oper) (slot : Nat) (want : Bool) (st : St) (K : St → Prop) : Option Tmp → Prop
  | none => False
  | some d => stV X M ops o rest slot want d st K st.tm[d]?
@[congr] theorem stV_c {ops : List Oper} {o : Oper} {rest : List Oper} {slot : Nat} {want : Bool} {d : Nat} {st : St} {K : St → Prop} {q q' : Option AV} (h : q = q') : stV X M ops o rest slot want d st K q = stV X M ops o rest slot want d st K q' := by rw [h]
@[congr] theorem stD_c {ops : List Oper} {o : Oper} {rest : List Oper} {slot : Nat} {want : Bool} {st : St} {K : St → Prop} {q q' : Option Tmp} (h : q = q') : stD X M ops o rest slot want st K q = stD X M ops o rest slot want st K q' := by rw [h]
theorem stD_some {ops : List Oper} {o : Oper} {rest : List Oper} {slot : Nat} {want : Bool} {st : St} {K : St → Prop} {d : Nat} : stD X M ops o rest slot want st K (some d) = stV X M ops o rest slot want d st K st.tm[d]? := rfl
theorem stV_bool {ops : List Oper} {o : Oper} {rest : List Oper} {slot : Nat} {want : Bool} {st : St} {K : St → Prop} {d : Nat} {x : Bool} : stV X M ops o rest slot want d st K (some (.v (.one (.c .bool x)))) = (match x with
    | true => if want then evOp X M slot o ⟨st.tm.set d (.v (.one (.c .bool true))), st.hp⟩ fun st' => evOps X M ops rest (slot + if isAl o.op then 1 else 0) st' K
        else evOps X M ops rest (slot + if isAl o.op then 1 else 0) ⟨putA (st.tm.set d (.v (.one (.c .bool true)))) o.dst (.tup []), st.hp⟩ K
    | false => if want then evOps X M ops rest (slot + if isAl o.op then 1 else 0) ⟨putA (st.tm.set d (.v (.one (.c .bool false)))) o.dst (.tup []), st.hp⟩ K
        else evOp X M slot o ⟨st.tm.set d (.v (.one (.c .bool false))), st.hp⟩ fun st' => evOps X M ops rest (slot + if isAl o.op then 1 else 0) st' K) := by cases x <;> rfl
theorem stV_tup {ops : List Oper} {o : Oper} {rest : List Oper} {slot : Nat} {want : Bool} {st : St} {K : St → Prop} {d : Nat} : stV X M ops o rest slot want d st K (some (.tup [])) = evOps X M ops rest (slot + if isAl o.op then 1 else 0) ⟨putA st.tm o.dst (.tup []), st.hp⟩ K := rfl
theorem evOps_nil {ops : List Oper} {slot : Nat} {st : St} {K : St → Prop} : evOps X M ops [] slot st K = K st := rfl
theorem evOps_none {ops : List Oper} {dst : Option Tmp} {op : Op} {ty : TypeId} {pos : String} {af : Array Edge} {rest : List Oper} {slot : Nat} {st : St} {K : St → Prop} :
    evOps X M ops (⟨dst, op, ty, pos, af, none⟩ :: rest) slot st K = evOp X M slot ⟨dst, op, ty, pos, af, none⟩ st fun st' => evOps X M ops rest (slot + if isAl op then 1 else 0) st' K := rfl
theorem evOps_some {ops : List Oper} {dst : Option Tmp} {op : Op} {ty : TypeId} {pos : String} {af : Array Edge} {j : Nat} {want : Bool} {rest : List Oper} {slot : Nat} {st : St} {K : St → Prop} :
    evOps X M ops (⟨dst, op, ty, pos, af, some (j, want)⟩ :: rest) slot st K = stD X M ops ⟨dst, op, ty, pos, af, some (j, want)⟩ rest slot want st K ((ops[j]?).bind (·.dst)) := by
  simp only [evOps]
  cases hd : (ops[j]?).bind (·.dst) with
  | none => rfl
  | some d =>
    simp only [stD, stV]
    rfl
theorem evC_seq {a b : Code} {st K} : evC X M D n (.seq a b) st K = evC X M D n a st fun e s => match e with
    | .normal => evC X M D n b s K
    | .exit id => K (.exit id) s
    | .ret => K .ret s := rfl
theorem evC_region {id ops st K} : evC X M D n (.region id ops false) st K = evOps X M ops.toList ops.toList st.hp.length ⟨st.tm, st.hp ++ List.replicate (countAl ops.toList) .fresh⟩ (K .normal) := rfl
theorem evC_draw {id ops st K} : evC X M D n (.region id ops true) st K = D ops ⟨st.tm, st.hp ++ List.replicate (countAl ops.toList) .fresh⟩ (K .normal) := rfl
theorem evC_skip {st K} : evC X M D n .skip st K = K .normal st := rfl
theorem evC_exit {id st K} : evC X M D n (.exit id) st K = K (.exit id) st := rfl
theorem evC_ret {st K} : evC X M D n .ret st K = K .ret st := rfl
theorem evC_block {id b st K} : evC X M D n (.block id b) st K = evC X M D n b st fun e s => match e with
    | .normal => K .normal s
    | .exit i => if i = id then K .normal s else K (.exit i) s
    | .ret => K .ret s := rfl
theorem evC_cond {c : Operand} {a b : Code} {st K} : evC X M D n (.cond c a b) st K = match (opd X 0 st.tm c).cv.sv with
    | .c .bool x => (match x with
      | true => evC X M D n a st K
      | false => evC X M D n b st K)
    | _ => False := rfl

theorem ite_dec {p : Prop} [Decidable p] {A B : Prop} (ha : p → A) (hb : ¬ p → B) : (match decide p with | true => A | false => B) := by
  by_cases h : p
  · rw [decide_eq_true h]; exact ha h
  · rw [decide_eq_false h]; exact hb h
def ofB (b : Bool) (A B : Prop) : Prop := match b with
  | true => A
  | false => B
theorem ite_b' {b : Bool} {A B : Prop} (ha : b = true → A) (hb : b = false → B) : ofB b A B := by
  cases b
  · exact hb rfl
  · exact ha rfl
theorem ite_b {b : Bool} {A B : Prop} : (b = true → A) → (b = false → B) → (match b with
  | true => A
  | false => B) := ite_b'

/-- What a round must come to. -/
def Back (n : Nat) {α : Type} (S : α → St) (Inv : α → Prop) (m : α → Nat) (a : α) (s' : St) : Prop := ∃ s1 k', Weak n s' s1 ∧ (∃ a, Inv a ∧ s1 = S a ∧ m a = k') ∧ k' < m a
theorem Back.of {α : Type} {S : α → St} {Inv : α → Prop} {m : α → Nat} {a : α} {s' : St} (keep olds : List Nat) (a' : α) (k : keeps n olds s'.hp = true) (e : trim n keep olds s' = S a') (h : Inv a') (hm : m a' < m a) : Back n S Inv m a s' :=
  ⟨_, m a', Weak.trim k, ⟨a', h, e, rfl⟩, hm⟩

@[congr] theorem Back_c {α : Type} {S : α → St} {Inv : α → Prop} {m : α → Nat} {a : α} {s s' : St} (h : s = s') : Back n S Inv m a s = Back n S Inv m a s' := by rw [h]
/-- What is handed back stands as it is. -/
theorem fin_ok {r : AV} {hp : List HC} {K : AV → List HC → Prop} (h : K r hp) : ∃ r' h', Weak n ⟨[r], hp⟩ ⟨[r'], h'⟩ ∧ K r' h' := ⟨r, hp, Weak.refl _ _, h⟩

/-- A loop: its states are S a. -/
theorem evC_loop {α : Type} {b : Code} {st : St} {K : Ex → St → Prop} (S : α → St) (Inv : α → Prop) (m : α → Nat) (keep olds : List Nat) (a0 : α) (k0 : keeps n olds st.hp = true) (e0 : trim n keep olds st = S a0) (h0 : Inv a0)
    (round : ∀ a, Inv a → evC X M D n b (S a) fun e s' => match e with
      | .normal => Back n S Inv m a s'
      | .exit id => K (.exit id) s'
      | .ret => K .ret s') : evC X M D n (.loop b) st K := by
  refine ⟨fun k s => ∃ a, Inv a ∧ s = S a ∧ m a = k, m a0, ⟨_, Weak.trim k0, a0, h0, e0, rfl⟩, ?_⟩
  rintro k s ⟨a, ha, rfl, rfl⟩
  exact round a ha
end
end Go.Proofs.Ytgkjgpiggjjmpaa.Ev
