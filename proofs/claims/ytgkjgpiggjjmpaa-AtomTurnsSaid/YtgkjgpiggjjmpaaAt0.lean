/- Lemmas for the claim: What the functions compute. (no condition.) -/
import Derived.Test.YtgkjgpiggjjmpaaEvR
import Derived.Test.YtgkjgpiggjjmpaaEvT
import Derived.KernelRfl
/-! What the functions compute. -/
namespace Go.Proofs.Ytgkjgpiggjjmpaa.Ev
open Go
set_option linter.unusedVariables false
set_option maxRecDepth 100000

abbrev Ins := Int × Int × Int × Int × Int × Unit
abbrev Core := List Int × Int × Bool × Unit
abbrev Want := Int × Int × Int × Int × Unit
abbrev Told := Int × Int × Unit
abbrev Atom := List Int × List Core × List Told × Unit
@[reducible] def tI : Ty := .int .i64
@[reducible] def tU : Ty := .int .u32
@[reducible] def tIns : Ty := .pair tI (.pair tI (.pair tI (.pair tI (.pair tU .unit))))
@[reducible] def tProg : Ty := .sl tIns
@[reducible] def tCore : Ty := .pair (.arr 8 tU) (.pair tI (.pair .bool .unit))
@[reducible] def tWant : Ty := .pair tI (.pair tI (.pair tU (.pair tU .unit)))
@[reducible] def tTold : Ty := .pair tI (.pair tU .unit)
@[reducible] def tAtom : Ty := .pair (.sl tU) (.pair (.sl tCore) (.pair (.sl tTold) .unit))

theorem mixed : Try.prog.follows .mixedOrders = true := by decide +kernel

theorem toNat_succ {j : Int} (h : 0 ≤ j) : (j + 1).toNat = j.toNat + 1 := by omega
theorem getD_all {α : Type} {xs : List α} {i : Int} (h : 0 ≤ i) (h2 : i < xs.length) : ∃ x, (∀ d, xs.getD i.toNat d = x) ∧ xs[i.toNat]? = some x ∧ xs.drop i.toNat = x :: xs.drop (i + 1).toNat :=
  ⟨xs[i.toNat]'(by omega), fun d => by rw [List.getD_eq_getElem?_getD, List.getElem?_eq_getElem (by omega)]; rfl, List.getElem?_eq_getElem (by omega), by rw [toNat_succ h, List.getElem_cons_drop]⟩
theorem neInt {x y : Int} : (x != y) = true ↔ x ≠ y := by simp
theorem ne_of_eqb {α : Type} {x y : α} {b : Bool} (h : b = true ↔ x = y) : (!b) = true ↔ x ≠ y := by
  cases b <;> simp_all
theorem neTold {x y : Told} : (!(tTold.eqb x y)) = true ↔ x ≠ y := by
  obtain ⟨a, b, ⟨⟩⟩ := x
  obtain ⟨c, d, ⟨⟩⟩ := y
  refine ne_of_eqb ?_
  simp only [Ty.eqb, Bool.and_true, Bool.and_eq_true, beq_iff_eq, Prod.mk.injEq, and_true]
theorem zip_eq : ∀ {xs ys : List Int}, xs.length = ys.length → ((xs.zip ys).all (fun p => p.1 == p.2) = true ↔ xs = ys)
  | [], [], _ => by simp
  | x :: xs, y :: ys, h => by
    simp only [List.zip_cons_cons, List.all_cons, Bool.and_eq_true, beq_iff_eq, List.cons.injEq]
    rw [zip_eq (by simpa using h)]
theorem neCore {x y : Core} (hx : x.1.length = 8) (hy : y.1.length = 8) : (!(tCore.eqb x y)) = true ↔ x ≠ y := by
  obtain ⟨a, b, c, ⟨⟩⟩ := x
  obtain ⟨d, e, f, ⟨⟩⟩ := y
  have := zip_eq (xs := a) (ys := d) (by simp only at hx hy; omega)
  refine ne_of_eqb ?_
  simp only [Ty.eqb, Bool.and_true, Bool.and_eq_true, beq_iff_eq, Prod.mk.injEq, and_true]
  rw [← this]
theorem idxFrom_iff {α : Type} (p : α → Bool) : ∀ (xs : List α) (i : Int), 0 ≤ i → (idxFrom p i xs ≥ 0 ↔ xs.any p = true)
  | [], i, h => by simp [idxFrom]
  | x :: xs, i, h => by
    by_cases hp : p x = true
    · simp [idxFrom, hp, h]
    · have := idxFrom_iff p xs (i + 1) (by omega)
      simp only [idxFrom, if_neg hp, this, List.any_cons]
      simp [hp]
/-- Is there one that p says yes to? -/
theorem idxFrom_any {α : Type} (p : α → Bool) (xs : List α) (i : Int) (h : 0 ≤ i) : decide (idxFrom p i xs ≥ 0) = xs.any p := by
  have := idxFrom_iff p xs i h
  cases hb : xs.any p with
  | true => rw [hb] at this; exact decide_eq_true (this.2 rfl)
  | false => rw [hb] at this; exact decide_eq_false fun h => by have := this.1 h; cases this

def usesN (op : Int) : Int :=
  if op == 1 || op == 14 then 9 else if op == 2 || op == 3 || op == 4 || op == 5 || op == 6 || op == 7 || op == 8 || op == 11 then 7 else if op == 9 || op == 10 then 3 else if op == 13 then 8 else if op == 15 then 1 else 0
def useB (op : Int) (k : Int) : Bool := bitI .and .i64 (usesN op) k != 0
def regOk (n : Int) (used : Bool) : Bool := if used then decide (0 ≤ n) && decide (n < 8) else n == 0
def insMay (x : Ins) (many : Int) : Bool :=
  decide (1 ≤ x.1) && decide (x.1 ≤ 16) && regOk x.2.1 (useB x.1 1) && regOk x.2.2.1 (useB x.1 2) && regOk x.2.2.2.1 (useB x.1 4) &&
    (x.1 == 1 || if useB x.1 8 then decide (0 < many) && decide (IntKind.u64.wrap x.2.2.2.2.1 < IntKind.u64.wrap many) else x.2.2.2.2.1 == 0)
@[reducible] def insZ : Ins := (0, 0, 0, 0, 0, ())
def isaRight (p : List Ins) : Bool :=
  decide (1 ≤ (p.length : Int)) && decide ((p.length : Int) ≤ 64) && ((p.getD (p.length - 1) insZ).1 == 16 || (p.getD (p.length - 1) insZ).1 == 13) && !(p.any fun x => !insMay x p.length)
def isaAll (l : List (List Ins)) : Bool := decide (1 ≤ (l.length : Int)) && decide ((l.length : Int) ≤ 4) && !(l.any fun p => !isaRight p)
def coreRight (p : List Ins) (c : Core) : Bool := isaRight p && decide (0 ≤ c.2.1) && decide (c.2.1 < p.length)
def truth (b : Bool) : Int := if b then 1 else 0
def wdo (op b c : Int) : Int × Bool :=
  if op == 2 then (IntKind.u32.wrap (b + c), true) else if op == 3 then (IntKind.u32.wrap (b - c), true) else if op == 4 then (IntKind.u32.wrap (b * c), true)
  else if op == 5 then (bitI .and .u32 b c, true) else if op == 6 then (bitI .xor .u32 b c, true) else if op == 7 then (truth (b == c), true) else if op == 8 then (truth (decide (b < c)), true) else (0, false)
def place (n words : Int) : Int := if words < 1 then 0 else IntKind.u64.wrap n % words
def isU (x : Int) : Prop := 0 ≤ x ∧ x < 4294967296

def wants (p : List Ins) (c : Core) (words : Int) : Want :=
  if !coreRight p c || c.2.2.1 || (p.getD c.2.1.toNat insZ).1 == 16 then (5, 0, 0, 0, ())
  else
    let x := p.getD c.2.1.toNat insZ
    let a := c.1.getD x.2.1.toNat 0
    let at' := place (c.1.getD x.2.2.1.toNat 0) words
    if x.1 == 9 then (1, at', 0, 0, ()) else if x.1 == 10 then (2, at', a, 0, ()) else if x.1 == 11 then (3, at', c.1.getD x.2.2.2.1.toNat 0, a, ()) else if x.1 == 15 then (4, 0, a, 0, ()) else (0, 0, 0, 0, ())
def done (p : List Ins) (c : Core) (was : Int) : Core :=
  if !coreRight p c || c.2.2.1 then c
  else
    let x := p.getD c.2.1.toNat insZ
    if x.1 == 1 then (c.1.set x.2.1.toNat x.2.2.2.2.1, c.2.1 + 1, c.2.2.1, ())
    else if x.1 == 9 || x.1 == 11 then (c.1.set x.2.1.toNat was, c.2.1 + 1, c.2.2.1, ())
    else if x.1 == 13 then (c.1, IntKind.i64.wrap x.2.2.2.2.1, c.2.2.1, ())
    else if x.1 == 14 then (c.1, if c.1.getD x.2.1.toNat 0 == 0 then IntKind.i64.wrap x.2.2.2.2.1 else c.2.1 + 1, c.2.2.1, ())
    else if x.1 == 16 then (c.1, c.2.1, true, ())
    else if (wdo x.1 (c.1.getD x.2.2.1.toNat 0) (c.1.getD x.2.2.2.1.toNat 0)).2 then (c.1.set x.2.1.toNat (wdo x.1 (c.1.getD x.2.2.1.toNat 0) (c.1.getD x.2.2.2.1.toNat 0)).1, c.2.1 + 1, c.2.2.1, ())
    else (c.1, c.2.1 + 1, c.2.2.1, ())

def coreZ : Core := (List.replicate 8 0, 0, false, ())
def actWas (mem : List Int) (w : Want) : Int := if w.1 < 1 || w.1 > 3 || w.2.1 < 0 || decide ((mem.length : Int) ≤ w.2.1) then 0 else mem.getD w.2.1.toNat 0
def actMem (mem : List Int) (w : Want) : List Int :=
  if w.1 < 1 || w.1 > 3 || w.2.1 < 0 || decide ((mem.length : Int) ≤ w.2.1) then mem
  else if w.1 == 2 || (w.1 == 3 && mem.getD w.2.1.toNat 0 == w.2.2.2.1) then mem.set w.2.1.toNat w.2.2.1 else mem
def newA (l : List (List Ins)) (words : Int) : Atom × Int :=
  if !isaAll l || words < 1 || words > 64 then (([], [], [], ()), 1) else ((List.replicate words.toNat 0, List.replicate l.length coreZ, [], ()), 0)
/-- One step of a core: words, cores, and what is told. -/
def stepWant (progs : List (List Ins)) (mem : List Int) (cores : List Core) (n : Int) : Want := wants (progs.getD n.toNat []) (cores.getD n.toNat coreZ) mem.length
def stepMem (progs : List (List Ins)) (mem : List Int) (cores : List Core) (n : Int) : List Int := actMem mem (stepWant progs mem cores n)
def stepCores (progs : List (List Ins)) (mem : List Int) (cores : List Core) (n : Int) : List Core :=
  cores.set n.toNat (done (progs.getD n.toNat []) (cores.getD n.toNat coreZ) (actWas mem (stepWant progs mem cores n)))
def stepOuts (progs : List (List Ins)) (mem : List Int) (cores : List Core) (outs : List Told) (n : Int) : List Told :=
  if (stepWant progs mem cores n).1 == 4 then outs ++ [(n, (stepWant progs mem cores n).2.2.1, ())] else outs
def stepVer (progs : List (List Ins)) (mem : List Int) (cores : List Core) (ver : Nat) (n : Int) : Nat := if (stepWant progs mem cores n).1 == 4 then ver + 1 else ver

def actRun : List CV → List HC → Option (Prop × AV × List HC)
  | [.one (.ref id ver (.int .u32) off len), w], [.live (.row (.int .u32) xs ver')] => match toT tWant w with
    | some w => some (id = 0 ∧ ver = ver' ∧ off = 0 ∧ len = List.length (α := Int) xs, .v (.one (.c tU (actWas xs w))), [.live (.row (.int .u32) (actMem xs w) ver')])
    | none => none
  | _, _ => none
def stepRun : List CV → List HC → Option (Prop × AV × List HC)
  | [p, .one (.bp i j), n], [.live (.box [.ref i1 v1 (.int .u32) o1 l1, .ref i2 v2 t2 o2 l2, .ref i3 v3 t3 o3 l3]), .live (.row (.int .u32) mem w1), .live (.row t2' cores w2), .live (.row t3' outs w3)] =>
    if h : t2' = tCore ∧ t3' = tTold ∧ t2 = tCore ∧ t3 = tTold then match toT (.sl (.sl tIns)) p, toT tI n with
    | some p, some n =>
      let cores : List Core := cast (by rw [h.1]) cores
      let outs : List Told := cast (by rw [h.2.1]) outs
      some ((i = 0 ∧ j = 0 ∧ i1 = 1 ∧ i2 = 2 ∧ i3 = 3 ∧ v1 = w1 ∧ v2 = w2 ∧ v3 = w3 ∧ o1 = 0 ∧ o2 = 0 ∧ o3 = 0) ∧ (l1 = List.length (α := Int) mem ∧ l2 = cores.length ∧ l3 = outs.length) ∧
        0 ≤ n ∧ n < List.length p ∧ n < cores.length ∧ List.length (α := Int) mem ≤ 1000000 ∧ outs.length ≤ 1000000, .tup [],
        [.live (.box [.ref 1 v1 (.int .u32) 0 (stepMem p mem cores n).length, .ref 2 v2 tCore 0 (stepCores p mem cores n).length, .ref 3 (stepVer p mem cores w3 n) tTold 0 (stepOuts p mem cores outs n).length]),
         .live (.row (.int .u32) (stepMem p mem cores n) w1), .live (.row tCore (stepCores p mem cores n) w2), .live (.row tTold (stepOuts p mem cores outs n) (stepVer p mem cores w3 n))])
    | _, _ => none else none
  | _, _ => none

instance : DecidableEq Told := inferInstanceAs (DecidableEq (Int × Int × Unit))
instance : DecidableEq Core := inferInstanceAs (DecidableEq (List Int × Int × Bool × Unit))
instance : DecidableEq (List Told × Unit) := instDecidableEqProd
instance : DecidableEq (List Core × List Told × Unit) := instDecidableEqProd
instance : DecidableEq Atom := instDecidableEqProd
@[reducible] def eqL {α : Type} [DecidableEq α] (a b : α) : Bool := decide (a = b)
def shortP (l : List (List Ins)) : Bool := decide ((l.length : Int) ≤ 6) && l.all fun p => decide ((p.length : Int) ≤ 80)
def overC (l : List Core) : Bool := !(l.any fun c => !c.2.2.1)
def atomRight (l : List (List Ins)) (a : Atom) : Bool :=
  isaAll l && decide (1 ≤ (a.1.length : Int)) && decide ((a.1.length : Int) ≤ 64) && decide ((a.2.1.length : Int) = l.length) && decide (∀ k, k < a.2.1.length → coreRight (l.getD k []) (a.2.1.getD k coreZ) = true)
def stepF (l : List (List Ins)) (a : Atom) (n : Int) : Atom := (stepMem l a.1 a.2.1 n, stepCores l a.1 a.2.1 n, stepOuts l a.1 a.2.1 a.2.2.1 n, ())
def stepA (l : List (List Ins)) (a : Atom) (n : Int) : Atom × Int := if !atomRight l a || n < 0 || decide ((a.2.1.length : Int) ≤ n) then (a, 1) else (stepF l a n, 0)
def runF (l : List (List Ins)) (a : Atom) (n : Int) : Atom := if 0 ≤ n ∧ n < (a.2.1.length : Int) then stepF l a n else a
def runA (l : List (List Ins)) (words : Int) (picks : List Int) : Atom × Int := if (newA l words).2 == 0 then (picks.foldl (runF l) (newA l words).1, 0) else newA l words

def c194 : Con := vcon [tI] [tI] (fun _ => True) (fun x => (usesN x.1, ()))
def c188 : Con := vcon [tI] [.bool, .bool, .bool, .bool] (fun _ => True) (fun x => (useB x.1 1, useB x.1 2, useB x.1 4, useB x.1 8, ()))
def c189 : Con := vcon [tI, .bool] [.bool] (fun _ => True) (fun x => (regOk x.1 x.2.1, ()))
def c177 : Con := vcon [tIns, tI] [.bool] (fun _ => True) (fun x => (insMay x.1 x.2.1, ()))
def c190 : Con := vcon [.bool] [tU] (fun _ => True) (fun x => (truth x.1, ()))
def c178 : Con := vcon [tI, tU, tU] [tU, .bool] (fun _ => True) (fun x => ((wdo x.1 x.2.1 x.2.2.1).1, (wdo x.1 x.2.1 x.2.2.1).2, ()))
def c85 : Con := vcon [tU, tI] [tI] (fun x => x.2.1 ≤ 140737488355328) (fun x => (place x.1 x.2.1, ()))
def c144 : Con := vcon [.sl tIns] [.bool] (fun _ => True) (fun x => (isaRight x.1, ()))
def c78 : Con := vcon [.sl (.sl tIns)] [.bool] (fun _ => True) (fun x => (isaAll x.1, ()))
def c84 : Con := vcon [.sl tIns, tCore] [.bool] (fun _ => True) (fun x => (coreRight x.1 x.2.1, ()))
def c27 : Con := vcon [.sl tIns, tCore, tI] [tWant] (fun x => x.2.2.1 ≤ 140737488355328) (fun x => (wants x.1 x.2.1 x.2.2.1, ()))
def c147 : Con := vcon [.sl tIns, tCore, tU] [tCore] (fun _ => True) (fun x => (done x.1 x.2.1 x.2.2.1, ()))
def c86 : Con := ⟨[.sl tU], fun x => (List.length x.1 ≤ 1000000000000, .v (.one (.ref 0 0 tU 0 (List.length x.1))), [.live (.row tU x.1 0)])⟩
def c145 : Con := ⟨[.sl tCore], fun x => (List.length x.1 ≤ 1000000000000, .v (.one (.ref 0 0 tCore 0 (List.length x.1))), [.live (.row tCore x.1 0)])⟩
def c146 : Con := ⟨[.sl tTold], fun x => (List.length x.1 ≤ 1000000000000, .v (.one (.ref 0 0 tTold 0 (List.length x.1))), [.live (.row tTold x.1 0)])⟩
def c79 : Con := ⟨[tAtom], fun x => (List.length x.1.1 ≤ 1000000000000 ∧ List.length x.1.2.1 ≤ 1000000000000 ∧ List.length x.1.2.2.1 ≤ 1000000000000, .v (.agg [.ref 0 0 tU 0 (List.length x.1.1), .ref 1 0 tCore 0 (List.length x.1.2.1), .ref 2 0 tTold 0 (List.length x.1.2.2.1)]), [.live (.row tU x.1.1 0), .live (.row tCore x.1.2.1 0), .live (.row tTold x.1.2.2.1 0)])⟩
def c21 : Con := ⟨[.sl (.sl tIns), tI], fun x => (True, .tup [.agg [.ref 0 0 tU 0 (List.length (newA x.1 x.2.1).1.1), .ref 1 0 tCore 0 (List.length (newA x.1 x.2.1).1.2.1), .ref 2 0 tTold 0 (List.length (newA x.1 x.2.1).1.2.2.1)], .one (.c tI (newA x.1 x.2.1).2)], [.live (.row tU (newA x.1 x.2.1).1.1 0), .live (.row tCore (newA x.1 x.2.1).1.2.1 0), .live (.row tTold (newA x.1 x.2.1).1.2.2.1 0)])⟩
def c87 : LCon := ⟨actRun⟩
def c80 : LCon := ⟨stepRun⟩
def c30 : Con := vcon [.sl tU, .sl tU] [.bool] (fun _ => True) (fun x => (eqL (α := List Int) x.1 x.2.1, ()))
def c23 : Con := vcon [.sl tTold, .sl tTold] [.bool] (fun _ => True) (fun x => (eqL (α := List Told) x.1 x.2.1, ()))
def c83 : Con := vcon [.sl tCore, .sl tCore] [.bool] (fun _ => True) (fun x => (eqL (α := List Core) x.1 x.2.1, ()))
def c25 : Con := vcon [tAtom, tAtom] [.bool] (fun _ => True) (fun x => (eqL (α := Atom) x.1 x.2.1, ()))
def c20 : Con := vcon [.sl (.sl tIns)] [.bool] (fun _ => True) (fun x => (shortP x.1, ()))
def c24 : Con := vcon [tAtom] [.bool] (fun _ => True) (fun x => (overC x.1.2.1, ()))
def c33 : Con := vcon [.sl (.sl tIns), tAtom] [.bool] (fun _ => True) (fun x => (atomRight x.1 x.2.1, ()))
def c22 : Con := vcon [.sl (.sl tIns), tAtom, tI] [tAtom, tI] (fun x => List.length x.2.1.1 ≤ 1000000 ∧ List.length x.2.1.2.1 ≤ 1000000 ∧ List.length x.2.1.2.2.1 ≤ 1000000) (fun x => ((stepA x.1 x.2.1 x.2.2.1).1, (stepA x.1 x.2.1 x.2.2.1).2, ()))
def c26 : Con := vcon [.sl (.sl tIns), tI, .sl tI] [tAtom, tI] (fun x => List.length x.2.2.1 ≤ 1000) (fun x => ((runA x.1 x.2.1 x.2.2.1).1, (runA x.1 x.2.1 x.2.2.1).2, ()))
def c19 : Con := vcon [] [.bool] (fun _ => True) (fun _ => (true, ()))
def con : Nat → Option Co
  | 19 => some (.val c19)
  | 20 => some (.val c20)
  | 21 => some (.val c21)
  | 22 => some (.val c22)
  | 23 => some (.val c23)
  | 24 => some (.val c24)
  | 25 => some (.val c25)
  | 26 => some (.val c26)
  | 27 => some (.val c27)
  | 30 => some (.val c30)
  | 33 => some (.val c33)
  | 78 => some (.val c78)
  | 79 => some (.val c79)
  | 80 => some (.lend c80)
  | 83 => some (.val c83)
  | 84 => some (.val c84)
  | 85 => some (.val c85)
  | 86 => some (.val c86)
  | 87 => some (.lend c87)
  | 144 => some (.val c144)
  | 145 => some (.val c145)
  | 146 => some (.val c146)
  | 147 => some (.val c147)
  | 177 => some (.val c177)
  | 178 => some (.val c178)
  | 188 => some (.val c188)
  | 189 => some (.val c189)
  | 190 => some (.val c190)
  | 194 => some (.val c194)
  | _ => none
theorem con19 : con 19 = some (.val c19) := rfl
theorem con20 : con 20 = some (.val c20) := rfl
theorem con21 : con 21 = some (.val c21) := rfl
theorem con22 : con 22 = some (.val c22) := rfl
theorem con23 : con 23 = some (.val c23) := rfl
theorem con24 : con 24 = some (.val c24) := rfl
theorem con25 : con 25 = some (.val c25) := rfl
theorem con26 : con 26 = some (.val c26) := rfl
theorem con27 : con 27 = some (.val c27) := rfl
theorem con30 : con 30 = some (.val c30) := rfl
theorem con33 : con 33 = some (.val c33) := rfl
theorem con78 : con 78 = some (.val c78) := rfl
theorem con79 : con 79 = some (.val c79) := rfl
theorem con80 : con 80 = some (.lend c80) := rfl
theorem con83 : con 83 = some (.val c83) := rfl
theorem con84 : con 84 = some (.val c84) := rfl
theorem con85 : con 85 = some (.val c85) := rfl
theorem con86 : con 86 = some (.val c86) := rfl
theorem con87 : con 87 = some (.lend c87) := rfl
theorem con144 : con 144 = some (.val c144) := rfl
theorem con145 : con 145 = some (.val c145) := rfl
theorem con146 : con 146 = some (.val c146) := rfl
theorem con147 : con 147 = some (.val c147) := rfl
theorem con177 : con 177 = some (.val c177) := rfl
theorem con178 : con 178 = some (.val c178) := rfl
theorem con188 : con 188 = some (.val c188) := rfl
theorem con189 : con 189 = some (.val c189) := rfl
theorem con190 : con 190 = some (.val c190) := rfl
theorem con194 : con 194 = some (.val c194) := rfl
end Go.Proofs.Ytgkjgpiggjjmpaa.Ev
