/- Lemmas for the claim: A region whose operations may run in any order. (no condition.) -/
import Derived.Test.YtgkjgpiggjjmpaaEv25
import Derived.Test.YtgkjgpiggjjmpaaEvL
/-! A region whose operations may run in any order. -/
namespace Go.Proofs.Ytgkjgpiggjjmpaa.Ev
open Go
set_option linter.unusedVariables false

def AV.cl : AV → Bool
  | .v a => a.cl
  | .tup l => l.all CV.cl

def snapS (hp : List HC) : SV → Option SV
  | .bp id j => match boxOf hp id with
    | some ls => match ls[j]? with
      | some (.c t x) => some (.cp t x)
      | _ => none
    | none => none
  | .cp t x => some (.cp t x)
  | .u => some .u
  | a => leafC hp a
def snapsS (hp : List HC) : List SV → Option (List SV)
  | [] => some []
  | a :: l => match snapS hp a, snapsS hp l with
    | some b, some m => some (b :: m)
    | _, _ => none
def snapCVS (hp : List HC) : CV → Option CV
  | .one a => (snapS hp a).map .one
  | .agg l => (snapsS hp l).map .agg
  | .fn f caps => (snapsS hp caps).map (.fn f)
def snapArgsS (hp : List HC) : List CV → Option (List CV)
  | [] => some []
  | a :: l => match snapCVS hp a, snapArgsS hp l with
    | some b, some m => some (b :: m)
    | _, _ => none

theorem snapS_snap {hp : List HC} {a b : SV} (h : snapS hp a = some b) : snapSV hp a = some b := by
  cases a with
  | bp id j =>
    simp only [snapS, snapSV] at h ⊢
    split at h
    · rename_i ls hls
      split at h
      · rename_i t x hx
        simp only [hls, hx, leafC]
        exact h
      · cases h
    · cases h
  | _ => exact h
theorem snapsS_snap {hp : List HC} : ∀ {l m : List SV}, snapsS hp l = some m → snaps hp l = some m
  | [], _, h => h
  | a :: l, m, h => by
    simp only [snapsS] at h
    split at h
    · rename_i b m' h1 h2
      simp only [snaps, snapS_snap h1, snapsS_snap h2]; exact h
    · cases h
theorem snapCVS_snap {hp : List HC} {a b : CV} (h : snapCVS hp a = some b) : snapCV hp a = some b := by
  cases a with
  | one a => simp only [snapCVS, Option.map_eq_some_iff] at h; obtain ⟨c, h1, h2⟩ := h; simp only [snapCV, snapS_snap h1, Option.map_some, h2]
  | agg a => simp only [snapCVS, Option.map_eq_some_iff] at h; obtain ⟨c, h1, h2⟩ := h; simp only [snapCV, snapsS_snap h1, Option.map_some, h2]
  | fn f a => simp only [snapCVS, Option.map_eq_some_iff] at h; obtain ⟨c, h1, h2⟩ := h; simp only [snapCV, snapsS_snap h1, Option.map_some, h2]
theorem snapArgsS_snap {hp : List HC} : ∀ {l m : List CV}, snapArgsS hp l = some m → snapArgs hp l = some m
  | [], _, h => h
  | a :: l, m, h => by
    simp only [snapArgsS] at h
    split at h
    · rename_i b m' h1 h2
      simp only [snapArgs, snapCVS_snap h1, snapArgsS_snap h2]; exact h
    · cases h

theorem leafC_loc {hp hp' : List HC} {a : SV} (h : Alike hp hp' a.at) : leafC hp a = leafC hp' a := by
  cases a with
  | ref id ver t off len => simp only [leafC, rowOf_loc h.one]
  | _ => rfl
theorem snapS_loc {hp hp' : List HC} {a : SV} (h : Alike hp hp' a.at) : snapS hp a = snapS hp' a := by
  cases a with
  | bp id j => simp only [snapS, boxOf_loc h.one]
  | ref id ver t off len => exact leafC_loc h
  | _ => rfl
theorem snapsS_loc {hp hp' : List HC} : ∀ {l : List SV}, Alike hp hp' (svsAt l) → snapsS hp l = snapsS hp' l
  | [], _ => rfl
  | a :: l, h => by simp only [snapsS, snapS_loc h.left, snapsS_loc h.right]
theorem snapCVS_loc {hp hp' : List HC} {a : CV} (h : Alike hp hp' a.at) : snapCVS hp a = snapCVS hp' a := by
  cases a with
  | one a => simp only [snapCVS, snapS_loc h]
  | agg l => simp only [snapCVS, snapsS_loc h]
  | fn f l => simp only [snapCVS, snapsS_loc h]
theorem snapArgsS_loc {hp hp' : List HC} : ∀ {l : List CV}, Alike hp hp' (cvsAt l) → snapArgsS hp l = snapArgsS hp' l
  | [], _ => rfl
  | a :: l, h => by simp only [snapArgsS, snapCVS_loc h.left, snapArgsS_loc h.right]

theorem renSV_cl {ρ : Nat → Option Nat} {a : SV} (h : a.cl = true) : renSV ρ a = a := by cases a <;> first | rfl | cases h
theorem renSVs_cl {ρ : Nat → Option Nat} {l : List SV} (h : l.all SV.cl = true) : l.map (renSV ρ) = l := by
  induction l with
  | nil => rfl
  | cons a l ih => simp only [List.all_cons, Bool.and_eq_true] at h; simp only [List.map_cons, renSV_cl h.1, ih h.2]
theorem renCV_cl {ρ : Nat → Option Nat} {a : CV} (h : a.cl = true) : renCV ρ a = a := by
  cases a with
  | one a => simp only [renCV, renSV_cl (show a.cl = true from h)]
  | agg l => simp only [renCV, renSVs_cl (show l.all SV.cl = true from h)]
  | fn f l => simp only [renCV, renSVs_cl (show l.all SV.cl = true from h)]
theorem renAV_cl {ρ : Nat → Option Nat} {a : AV} (h : a.cl = true) : renAV ρ a = a := by
  cases a with
  | v a => simp only [renAV, renCV_cl (show a.cl = true from h)]
  | tup l =>
    have : ∀ l : List CV, l.all CV.cl = true → l.map (renCV ρ) = l := fun l h => by
      induction l with
      | nil => rfl
      | cons a l ih => simp only [List.all_cons, Bool.and_eq_true] at h; simp only [List.map_cons, renCV_cl h.1, ih h.2]
    simp only [renAV, this l h]

/-- A call that leaves nothing behind. -/
def callD (P : Program) (k : Nat) (args : List CV) (hp : List HC) (K : AV → Prop) : Prop := match args.all CV.cl with
  | true => ACall P k args [] fun r h => h = [] ∧ r.cl = true ∧ K r
  | false => match snapArgsS hp args with
    | some args' => ACall P k args' [] fun r h => h = [] ∧ r.cl = true ∧ r.flat = true ∧ K r
    | none => False

theorem callD.mono {P : Program} {k : Nat} {args : List CV} {hp : List HC} {K K' : AV → Prop} (h : callD P k args hp K) (hk : ∀ r, K r → K' r) : callD P k args hp K' := by
  unfold callD at h ⊢
  split at h
  · exact h.mono fun r h ⟨a, b, c⟩ => ⟨a, b, hk r c⟩
  · split at h
    · exact h.mono fun r h ⟨a, b, c, d⟩ => ⟨a, b, c, hk r d⟩
    · exact h.elim
theorem callD.loc {P : Program} {k : Nat} {args : List CV} {hp hp' : List HC} {K : AV → Prop} (ha : Alike hp hp' (cvsAt args)) (h : callD P k args hp K) : callD P k args hp' K := by
  unfold callD at h ⊢
  rw [← snapArgsS_loc ha]
  exact h
theorem callD_ok {P : Program} {k : Nat} {args : List CV} {hp : List HC} {K : AV → List HC → Prop} (h : callD P k args hp fun r => K r hp) : ACall P k args hp K := by
  unfold callD at h
  split at h
  · rename_i hc
    refine iso0 hc (h.mono ?_)
    rintro r _ ⟨rfl, h1, h2⟩
    rw [renAV_cl h1]
    simpa using h2
  · split at h
    · rename_i args' hs
      refine iso1 (snapArgsS_snap hs) (h.mono ?_)
      rintro r _ ⟨rfl, h1, h3, h2⟩
      rw [renAV_cl h1]
      exact ⟨⟨h3, rfl⟩, by simpa using h2⟩
    · exact h.elim

/-- A call that may write what stands at these ids, or makes what comes to stand there. -/
def callW (P : Program) (k : Nat) (args : List CV) (hp : List HC) : List Nat → (AV → List HC → Prop) → Prop
  | [], Φ => callD P k args hp fun r => Φ r []
  | a :: l, Φ => noDup (a :: l) = true ∧ match (a :: l).all (isFreshAt hp) with
    | true => args.all CV.cl = true ∧ ACall P k args [] fun r h => h.length = (a :: l).length ∧ Φ (renAV (pos (a :: l)) r) (h.map (renHC (pos (a :: l))))
    | false => (a :: l).all (isLiveAt hp) = true ∧ ACall P k (args.map (renCV (idx (a :: l)))) (lendHp (a :: l) hp) fun r h => h.length = (a :: l).length ∧ r.cl = true ∧ Φ r (h.map (renHC (sig (a :: l) hp.length)))

theorem callW.mono {P : Program} {k : Nat} {args : List CV} {hp : List HC} {ids : List Nat} {Φ Φ' : AV → List HC → Prop} (h : callW P k args hp ids Φ) (hk : ∀ r u, Φ r u → Φ' r u) : callW P k args hp ids Φ' := by
  cases ids with
  | nil => exact callD.mono h fun r => hk r []
  | cons a l =>
    obtain ⟨h1, h2⟩ := h
    refine ⟨h1, ?_⟩
    split at h2
    · exact ⟨h2.1, h2.2.mono fun r h ⟨a, b⟩ => ⟨a, hk _ _ b⟩⟩
    · exact ⟨h2.1, h2.2.mono fun r h ⟨a, b, c⟩ => ⟨a, b, hk _ _ c⟩⟩
theorem callW.loc {P : Program} {k : Nat} {args : List CV} {hp hp' : List HC} {ids : List Nat} {Φ : AV → List HC → Prop} (ha : Alike hp hp' (cvsAt args)) (hi : Alike hp hp' ids) (hl : hp.length = hp'.length) (h : callW P k args hp ids Φ) : callW P k args hp' ids Φ := by
  cases ids with
  | nil => exact callD.loc ha h
  | cons a l =>
    have e1 : (a :: l).all (isLiveAt hp) = (a :: l).all (isLiveAt hp') := by
      rw [Bool.eq_iff_iff, List.all_eq_true, List.all_eq_true]
      exact ⟨fun g x hx => by have := g x hx; unfold isLiveAt at this ⊢; rwa [← hi x hx], fun g x hx => by have := g x hx; unfold isLiveAt at this ⊢; rwa [hi x hx]⟩
    have e3 : (a :: l).all (isFreshAt hp) = (a :: l).all (isFreshAt hp') := by
      rw [Bool.eq_iff_iff, List.all_eq_true, List.all_eq_true]
      exact ⟨fun g x hx => by have := g x hx; unfold isFreshAt at this ⊢; rwa [← hi x hx], fun g x hx => by have := g x hx; unfold isFreshAt at this ⊢; rwa [hi x hx]⟩
    have e2 : lendHp (a :: l) hp = lendHp (a :: l) hp' := List.map_congr_left fun x hx => by rw [List.getD_eq_getElem?_getD, List.getD_eq_getElem?_getD, hi x hx]
    obtain ⟨h1, h2⟩ := h
    refine ⟨h1, ?_⟩
    rw [← e1, ← e2, ← e3, ← hl]
    exact h2
theorem callW_ok {P : Program} {k : Nat} {args : List CV} {hp : List HC} {ids : List Nat} {K : AV → List HC → Prop} (h : callW P k args hp ids fun r u => K r (setAll ids u hp)) : ACall P k args hp K := by
  cases ids with
  | nil => exact callD_ok h
  | cons a l =>
    obtain ⟨h1, h2⟩ := h
    split at h2
    · rename_i hf
      exact iso0F (a :: l) h1 hf h2.1 h2.2
    · obtain ⟨h2, h3⟩ := h2
      refine lend_call (a :: l) h1 h2 (h3.mono ?_)
      rintro r h ⟨e1, e2, h4⟩
      rw [renAV_cl e2]
      have : backHp (a :: l) hp h = setAll (a :: l) (h.map (renHC (sig (a :: l) hp.length))) hp := by
        unfold backHp
        rw [List.drop_eq_nil_of_le (by omega)]
        simp
      rw [this]
      exact h4

def Md (P : Program) (ids : List Nat) : Mode P := fun k args hp K => callW P k args hp ids fun r u => K r (setAll ids u hp)
theorem Md_ok (P : Program) (ids : List Nat) : ModeOk P (Md P ids) := fun k args hp K h => callW_ok h

def isCallV : Op → Bool
  | .call c => match c.callee with
    | .value _ => true
    | _ => false
  | _ => false

def argsD {P : Program} (X : Tbl P) (c : Call) (tm : List AV) (caps : List SV) : List CV := ((c.args.toList.zip c.argTypes.toList).map fun x => (opd X x.2 tm x.1).cv) ++ caps.map CV.one

def evA {P : Program} (X : Tbl P) (ids : List Nat) (slot : Nat) (o : Oper) (st : St) (K : St → Prop) : Prop :=
  match fOp X slot o st.tm st.hp with
  | some (p, r, hp') => p ∧ (isAl o.op = true → st.hp[slot]? = some .fresh) ∧ K ⟨putA st.tm o.dst r, hp'⟩
  | none => match o.op with
    | .call c => match c.callee with
      | .value f => match opd X 0 st.tm f with
        | .v (.fn k caps) => c.args.size = c.argTypes.size ∧ callW P k (argsD X c st.tm caps) st.hp ids fun r u => K ⟨putA st.tm o.dst r, setAll ids u st.hp⟩
        | _ => False
      | _ => False
    | _ => False

theorem evA_evOp1 {P : Program} {X : Tbl P} {ids : List Nat} {slot : Nat} {o : Oper} {st : St} {K : St → Prop} (h : evA X ids slot o st K) : evOp1 X (Md P ids) slot o st K := by
  unfold evA at h
  unfold evOp1
  split at h
  · rename_i p r hp' hf
    simp only [hf]
    exact ⟨h.1, h.2.1, fun _ => h.2.2⟩
  · rename_i hf
    simp only [hf]
    split at h
    · rename_i c ho
      split at h
      · rename_i f hc
        split at h
        · rename_i k caps hk
          simp only [ho, hc, hk]
          exact h
        · exact h.elim
      · exact h.elim
    · exact h.elim

def wantD (ops : List Oper) (o : Oper) (tm : List AV) : Option Bool := match o.guard with
  | none => some true
  | some (j, want) => match (ops[j]?).bind (·.dst) with
    | none => none
    | some d => match tm[d]? with
      | some (.v (.one (.c .bool x))) => some ((x : Bool) == want)
      | some (.tup []) => some false
      | _ => none

def evI {P : Program} (X : Tbl P) (ids : List Nat) (ops : List Oper) (slot : Nat) (o : Oper) (st : St) (K : St → Prop) : Prop :=
  match wantD ops o st.tm with
  | some b => (match b with
    | true => evA X ids slot o st K
    | false => K ⟨putA st.tm o.dst (.tup []), st.hp⟩)
  | none => False

def offD (ops : List Oper) (i : Nat) : Nat := countAl (ops.take i)
/-- Which operations one stands behind. -/
def ancD (ops : List Oper) : Nat → List Oper → List Nat → List Nat
  | _, [], acc => acc
  | i, o :: l, acc => ancD ops (i + 1) l (acc ++ [o.after.toList.foldl (fun m e => if Region.binds .any e then m ||| (1 <<< e.on) ||| acc.getD e.on 0 else m) 0])
def isAnc (anc : List Nat) (b i : Nat) : Bool := (anc.getD i 0).testBit b
def isAlAt (ops : List Oper) (b : Nat) : Bool := match ops[b]? with
  | some o => isAl o.op
  | none => false
def unord (anc : List Nat) (i j : Nat) : Bool := if j < i then !isAnc anc j i else !isAnc anc i j

/-- What a call writes. -/
def Wof : List (Nat × List Nat) → Nat → List Nat
  | [], _ => []
  | (j, l) :: W, i => if j = i then l else Wof W i

def chkI (W : List (Nat × List Nat)) (ops : List Oper) (anc : List Nat) (base i : Nat) (o : Oper) (tm : List AV) : Bool :=
  ((opAt tm o ++ Wof W i).all fun id => decide (id < base) || decide (base + countAl ops ≤ id) || (List.range ops.length).any fun b => isAnc anc b i && isAlAt ops b && (id == base + offD ops b)) &&
  ((baseAt tm o).all fun id => (Wof W i).contains id || ((List.range ops.length).all fun j => j == i || !unord anc i j) || (List.range ops.length).any fun b => isAlAt ops b && (id == base + offD ops b) && isAnc anc b i && (List.range ops.length).all fun j => j == i || !unord anc i j || (!isAnc anc b j && j != b)) &&
  ((List.range ops.length).all fun x => x == i || !unord anc x i || (opAt tm o ++ Wof W i).all fun id => !(Wof W x).contains id)

def okp (ops : List Oper) (x i : Oper) : Bool := Oper.apart ops.toArray x i && !isStore x.op && !isStore i.op && !(isCallV x.op && isCallV i.op)

def chkS (ops : List Oper) (anc : List Nat) : Bool :=
  (List.range ops.length).all fun i => match ops[i]? with
    | none => false
    | some o => (o.after.toList.all fun e => !Region.binds .any e || decide (e.on < i)) &&
      ((List.range ops.length).all fun b => !isAnc anc b i || (decide (b < i) && o.after.toList.any fun e => Region.binds .any e && (e.on == b || isAnc anc b e.on))) &&
      ((List.range i).all fun x => isAnc anc x i || match ops[x]? with
        | none => false
        | some ox => okp ops ox o)

def evD {P : Program} (X : Tbl P) (W : List (Nat × List Nat)) (ops : List Oper) (anc : List Nat) (base : Nat) : List Nat → St → (St → Prop) → Prop
  | [], st, K => K st
  | i :: l, st, K => match ops[i]? with
    | none => False
    | some o => chkI W ops anc base i o st.tm = true ∧ evI X (Wof W i) ops (base + offD ops i) o st fun s => evD X W ops anc base l s K

def drawD {P : Program} (X : Tbl P) : DrawP P := fun ops st K => chkS ops.toList (ancD ops.toList 0 ops.toList []) = true ∧ ∃ W ids base, evD X W ops.toList (ancD ops.toList 0 ops.toList []) base (List.range ops.toList.length) (fz ids st) K
end Go.Proofs.Ytgkjgpiggjjmpaa.Ev
