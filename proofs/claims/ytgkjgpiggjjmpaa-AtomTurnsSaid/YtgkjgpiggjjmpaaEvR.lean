/- Lemmas for the claim: Rows counted anew. (no condition.) -/
import Derived.Test.YtgkjgpiggjjmpaaEvO
/-! Rows counted anew. -/
namespace Go.Proofs.Ytgkjgpiggjjmpaa.Ev
open Go
set_option linter.unusedVariables false

def verOf (hp : List HC) (id : Nat) : Option Nat := match hp[id]? with
  | some (.live (.row _ _ v)) => some v
  | _ => none
def rstV (n : Nat) (hp : List HC) (id ver : Nat) : Option Nat := match Nat.ble n id with
  | true => match verOf hp id with
    | some v => if v = ver then some 0 else none
    | none => some ver
  | false => some ver
def rstSV (n : Nat) (hp : List HC) : SV → SV
  | .ref id ver t off len => match rstV n hp id ver with
    | some v => .ref id v t off len
    | none => .u
  | .rp id ver t i p => match rstV n hp id ver with
    | some v => .rp id v t i p
    | none => .u
  | a => a
def rstCV (n : Nat) (hp : List HC) : CV → CV
  | .one a => .one (rstSV n hp a)
  | .agg l => .agg (l.map (rstSV n hp))
  | .fn f caps => .fn f (caps.map (rstSV n hp))
def rstAV (n : Nat) (hp : List HC) : AV → AV
  | .v a => .v (rstCV n hp a)
  | .tup l => .tup (l.map (rstCV n hp))
def rstHC (n : Nat) (hp : List HC) (id : Nat) : HC → HC
  | .live (.row t xs v) => .live (.row t xs (match Nat.ble n id with
    | true => 0
    | false => v))
  | .live (.box ls) => .live (.box (ls.map (rstSV n hp)))
  | c => c
def rstL (n : Nat) (hp : List HC) : Nat → List HC → List HC
  | _, [] => []
  | i, c :: l => rstHC n hp i c :: rstL n hp (i + 1) l
def rst (n : Nat) (st : St) : St := ⟨st.tm.map (rstAV n st.hp), rstL n st.hp 0 st.hp⟩

theorem rstL_get (n : Nat) (hp : List HC) : ∀ (l : List HC) (i k : Nat), (rstL n hp i l)[k]? = (l[k]?).map (rstHC n hp (i + k))
  | [], i, k => by simp [rstL]
  | c :: l, i, 0 => by simp [rstL]
  | c :: l, i, k + 1 => by
    simp only [rstL, List.getElem?_cons_succ]
    rw [rstL_get n hp l (i + 1) k, show i + 1 + k = i + (k + 1) by omega]

theorem rstSV_size (n : Nat) (hp : List HC) (a : SV) : (rstSV n hp a).size = a.size := by
  cases a <;> simp only [rstSV] <;> (try split) <;> rfl
theorem rst_sumsz (n : Nat) (hp : List HC) (l : List SV) : sumsz (l.map (rstSV n hp)) = sumsz l := by
  induction l with
  | nil => rfl
  | cons a l ih => simp only [List.map_cons, sumsz, rstSV_size, ih]
theorem rst_sizes (n : Nat) (hp : List HC) (l : List SV) : (l.map (rstSV n hp)).map SV.size = l.map SV.size := by
  rw [List.map_map]; congr 1; funext a; exact rstSV_size n hp a

section
variable {w0 : World} {S : Who} {E : Env} {n : Nat}
def Env.rst (E : Env) (n : Nat) : Env := { E with hp := rstL n E.hp 0 E.hp }

theorem rst_get (E : Env) (n id : Nat) : (E.rst n).hp[id]? = (E.hp[id]?).map (rstHC n E.hp id) := by
  show (rstL n E.hp 0 E.hp)[id]? = _
  rw [rstL_get, Nat.zero_add]
theorem rst_notYet (n id : Nat) : notYet (E.rst n).hp[id]? ↔ notYet E.hp[id]? := by
  rw [rst_get]
  cases E.hp[id]? with
  | none => exact Iff.rfl
  | some c =>
    cases c with
    | fresh => exact Iff.rfl
    | dead => exact Iff.rfl
    | live r => cases r <;> exact Iff.rfl
theorem rst_row {id : Nat} {t : Ty} {xs : List t.D} {v : Nat} (h : (E.rst n).hp[id]? = some (.live (.row t xs v))) : ∃ v0, E.hp[id]? = some (.live (.row t xs v0)) ∧ v = (match Nat.ble n id with
    | true => 0
    | false => v0) := by
  rw [rst_get] at h
  cases hc : E.hp[id]? with
  | none => rw [hc] at h; cases h
  | some c =>
    rw [hc] at h
    simp only [Option.map_some, Option.some.injEq] at h
    cases c with
    | live r =>
      cases r with
      | row t0 xs0 v0 =>
        simp only [rstHC, HC.live.injEq, Root.row.injEq] at h
        obtain ⟨rfl, h2, rfl⟩ := h
        exact ⟨v0, by rw [eq_of_heq h2], rfl⟩
      | box ls => simp [rstHC] at h
    | fresh => cases h
    | dead => cases h
theorem rst_box {id : Nat} {ls : List SV} (h : (E.rst n).hp[id]? = some (.live (.box ls))) : ∃ ls0, E.hp[id]? = some (.live (.box ls0)) ∧ ls = ls0.map (rstSV n E.hp) := by
  rw [rst_get] at h
  cases hc : E.hp[id]? with
  | none => rw [hc] at h; cases h
  | some c =>
    rw [hc] at h
    simp only [Option.map_some, Option.some.injEq] at h
    cases c with
    | live r =>
      cases r with
      | row t0 xs0 v0 => simp [rstHC] at h
      | box ls0 =>
        simp only [rstHC, HC.live.injEq, Root.box.injEq] at h
        exact ⟨ls0, rfl, h.symm⟩
    | fresh => cases h
    | dead => cases h

theorem rstV_ok {id ver v : Nat} {t : Ty} (hr : rstV n E.hp id ver = some v) {Q : List t.D → Prop} (h : ∀ xs ver', E.hp[id]? = some (.live (.row t xs ver')) → ver ≤ ver' ∧ (ver = ver' → Q xs)) :
    ∀ xs ver', (E.rst n).hp[id]? = some (.live (.row t xs ver')) → v ≤ ver' ∧ (v = ver' → Q xs) := by
  intro xs ver' hx
  obtain ⟨v0, h1, h2⟩ := rst_row hx
  obtain ⟨h3, h4⟩ := h xs v0 h1
  unfold rstV at hr
  cases hn : Nat.ble n id with
  | true =>
    rw [hn] at hr h2
    simp only [verOf, h1] at hr
    split at hr
    · rename_i e
      simp only [Option.some.injEq] at hr
      subst hr h2
      exact ⟨Nat.le_refl _, fun _ => h4 e.symm⟩
    · cases hr
  | false =>
    rw [hn] at hr h2
    simp only [Option.some.injEq] at hr
    simp only at h2
    subst hr h2
    exact ⟨h3, h4⟩

theorem SVR.rst {a : SV} {v : Value} (hv : SVR E a v) : SVR (E.rst n) (rstSV n E.hp a) v := by
  cases a with
  | u => trivial
  | c t x => exact hv
  | nl t => exact hv
  | cp t x => exact hv
  | ref id ver t off len =>
    simp only [rstSV]
    split
    · rename_i v' hr
      obtain ⟨h1, h2⟩ := hv
      exact ⟨fun h => h1 ((rst_notYet n id).1 h), rstV_ok hr h2⟩
    · trivial
  | rp id ver t i p =>
    simp only [rstSV]
    split
    · rename_i v' hr
      obtain ⟨h1, h2⟩ := hv
      exact ⟨fun h => h1 ((rst_notYet n id).1 h), rstV_ok hr h2⟩
    · trivial
  | bp id j =>
    obtain ⟨h1, h2⟩ := hv
    refine ⟨fun h => h1 ((rst_notYet n id).1 h), fun ls hx => ?_⟩
    obtain ⟨ls0, h3, rfl⟩ := rst_box hx
    obtain ⟨h4, l, h5, h6⟩ := h2 ls0 h3
    exact ⟨by simpa using h4, l, h5, by rw [← List.map_take, rst_sumsz]; exact h6⟩
  | ip id j i =>
    obtain ⟨h1, h2⟩ := hv
    refine ⟨fun h => h1 ((rst_notYet n id).1 h), fun ls hx => ?_⟩
    obtain ⟨ls0, h3, rfl⟩ := rst_box hx
    obtain ⟨h4, l, h5, h6⟩ := h2 ls0 h3
    exact ⟨by rw [rst_sizes]; exact h4, l, h5, by rw [← List.map_take, rst_sumsz]; exact h6⟩
theorem SVC.rst {a : SV} {cs : List Value} (hv : SVC E a cs) : SVC (E.rst n) (rstSV n E.hp a) cs := by
  cases a with
  | c t x => exact hv
  | _ =>
    obtain ⟨v, e, hv⟩ := hv
    have := hv.rst (n := n)
    revert this
    simp only [rstSV]
    (try split) <;> exact fun this => ⟨v, e, this⟩
theorem CVR.rst {a : CV} {v : Value} (hv : CVR E a v) : CVR (E.rst n) (rstCV n E.hp a) v := by
  cases a with
  | one a => exact SVR.rst hv
  | agg l => obtain ⟨cs, hs, e⟩ := hv; exact ⟨cs, hs.map fun _ _ h' => h'.rst, e⟩
  | fn f caps => obtain ⟨vs, e, hs⟩ := hv; exact ⟨vs, e, hs.map fun _ _ ⟨v, e, h'⟩ => ⟨v, e, h'.rst⟩⟩
theorem AVR.rst {a : AV} {v : Value} (hv : AVR E a v) : AVR (E.rst n) (rstAV n E.hp a) v := by
  cases a with
  | v a => exact CVR.rst hv
  | tup l => obtain ⟨vs, e, hs⟩ := hv; exact ⟨vs, e, hs.map fun _ _ ⟨v, e, h'⟩ => ⟨v, e, h'.rst⟩⟩

theorem rst_live {id : Nat} {r : Root} (h : (E.rst n).hp[id]? = some (.live r)) : ∃ r0, E.hp[id]? = some (.live r0) := by
  cases r with
  | box ls => obtain ⟨ls0, h, _⟩ := rst_box h; exact ⟨_, h⟩
  | row t xs v => obtain ⟨v0, h, _⟩ := rst_row h; exact ⟨_, h⟩

theorem rst_ok (h : HR w0 S E) : HR w0 S (E.rst n) := by
  refine ⟨fun id r hx => ?_, fun i j ri rj li lj hi hj hli hlj e => ?_, fun i r l hx hl => ?_, fun i r l hx hl => ?_, fun i r l hx hl => ?_, h.Fin, h.Fold, h.old, h.size, h.os, h.tape, h.output⟩
  · cases r with
    | box ls =>
      obtain ⟨ls0, h1, rfl⟩ := rst_box hx
      obtain ⟨l, ty, cells, g1, g2, g3⟩ := h.root id _ h1
      exact ⟨l, ty, cells, g1, g2, g3.map fun _ _ h' => h'.rst⟩
    | row t xs v =>
      obtain ⟨v0, h1, _⟩ := rst_row hx
      exact h.root id _ h1
  · obtain ⟨_, a⟩ := rst_live hi
    obtain ⟨_, b⟩ := rst_live hj
    exact h.inj i j _ _ li lj a b hli hlj e
  · obtain ⟨_, a⟩ := rst_live hx
    exact h.notF i _ l a hl
  · obtain ⟨_, a⟩ := rst_live hx
    exact h.may i _ l a hl
  · obtain ⟨_, a⟩ := rst_live hx
    exact h.inside i _ l a hl

theorem Weak.rst {st : St} : Weak n st (rst n st) := by
  intro w0 S E0 E tmps h1 h2 h3 h4
  refine ⟨E.rst n, rfl, by simp only [Ev.rst, Env.rst, h2], rst_ok h1, ⟨by simpa [Ev.rst] using h3.1, fun t => ?_⟩, ⟨h4.F, h4.Fw, fun id hi hn => h4.old id hi ((rst_notYet n id).1 hn), fun id t xs ver hi hn hx => ?_, fun id ls hi hn hx => ?_⟩⟩
  · have := (h3.2 t).rst (n := n)
    rw [h2] at this
    simp only [Ev.rst, List.getD_eq_getElem?_getD, List.getElem?_map] at this ⊢
    cases hc : st.tm[t]? with
    | none => simp only [hc, Option.map_none, Option.getD_none]; trivial
    | some a => rw [hc] at this; simpa using this
  · obtain ⟨v0, g1, g2⟩ := rst_row hx
    have : Nat.ble n id = false := by
      cases hb : Nat.ble n id with
      | false => rfl
      | true => have := Nat.le_of_ble_eq_true hb; omega
    rw [this] at g2
    simp only at g2
    subst g2
    exact h4.row id t xs _ hi hn g1
  · obtain ⟨ls0, g1, rfl⟩ := rst_box hx
    obtain ⟨ls1, g2, g3, g4⟩ := h4.box id ls0 hi hn g1
    exact ⟨ls1, g2, by rw [g3, rst_sizes], g4⟩

/-- What is handed back to be owned: rows of one's own, in order. -/
theorem finG_own {l : List CV} {hp : List HC} {K : AV → List HC → Prop} (olds : List Nat) {v : AV} {hs : List HC} (hk : keeps n olds (nlCVs l hp).2 = true)
    (e : Ev.rst n (trim n [0] olds ⟨[resAV (nlCVs l hp).1], (nlCVs l hp).2⟩) = ⟨[v], hs⟩) (h : K v hs) : finG n hp K (some l) := by
  refine ⟨v, hs, ?_, h⟩
  have := ((Weak.nl (n := n) (l := l) (hp := hp)).trans (Weak.trim (keep := [0]) hk)).trans Weak.rst
  rwa [e] at this

theorem Back.ofZ {α : Type} {S : α → St} {Inv : α → Prop} {m : α → Nat} {a : α} {s' : St} (fzs keep olds : List Nat) (a' : α) (k : keeps n olds (fz fzs s').hp = true) (e : trim n keep olds (fz fzs s') = S a') (h : Inv a') (hm : m a' < m a) : Back n S Inv m a s' :=
  ⟨_, m a', (Weak.fz (l := fzs)).trans (Weak.trim k), ⟨a', h, e, rfl⟩, hm⟩
/-- A loop: its states are told by what varies; rows fall still ahead of it. -/
theorem evC_forZ {P : Program} {X : Tbl P} {M : Mode P} {D : DrawP P} {α : Type} {b : Code} {d : AV} {m : Nat} {l : List (Nat × AV)} {hp : List HC} {K : Ex → St → Prop} (vary : α → List (Nat × AV)) (hps : α → List HC) (Inv : α → Prop) (μ : α → Nat) (fzs all olds : List Nat) (a0 : α)
    (k0 : keeps n olds (fz fzs ⟨mkS d m l, hp⟩).hp = true) (e0 : trim n all olds (fz fzs ⟨mkS d m l, hp⟩) = ⟨mkS (.v (.one .u)) m (vary a0), hps a0⟩) (h0 : Inv a0)
    (round : ∀ a, Inv a → evC X M D n b ⟨mkS (.v (.one .u)) m (vary a), hps a⟩ fun e s' => match e with
      | .normal => Back n (fun a => ⟨mkS (.v (.one .u)) m (vary a), hps a⟩) Inv μ a s'
      | .exit id => K (.exit id) s'
      | .ret => K .ret s') : evC X M D n (.loop b) ⟨mkS d m l, hp⟩ K := by
  refine ⟨fun k s => ∃ a, Inv a ∧ s = ⟨mkS (.v (.one .u)) m (vary a), hps a⟩ ∧ μ a = k, μ a0, ⟨_, (Weak.fz (l := fzs)).trans (Weak.trim k0), a0, h0, e0, rfl⟩, ?_⟩
  rintro k s ⟨a, ha, rfl, rfl⟩
  exact round a ha

/-! A loop's head in its plainest form. -/
def nlM (d : AV) : List Nat → List (Nat × AV) → List HC → List (Nat × AV) × List HC
  | [], l, hp => (l, hp)
  | j :: js, l, hp => match lookA d l j with
    | .v (.one (.nl t)) => nlM d js ((j, .v (.one (.ref hp.length 0 t 0 0))) :: l) (hp ++ [.live (.row t [] 0)])
    | _ => nlM d js l hp
theorem Weak.nlSlot {d : AV} {m : Nat} {l : List (Nat × AV)} {hp : List HC} {j : Nat} {t : Ty} (h : lookA d l j = .v (.one (.nl t))) : Weak n ⟨mkS d m l, hp⟩ ⟨mkS d m ((j, .v (.one (.ref hp.length 0 t 0 0))) :: l), hp ++ [.live (.row t [] 0)]⟩ := by
  intro w0 S E0 E tmps h1 h2 h3 h4
  subst h2
  obtain ⟨g1, g2, g3⟩ := nl_ok h1 t
  refine ⟨E.nl t, rfl, rfl, g1, ⟨by rw [mkS_len, ← h3.1, mkS_len], fun i => ?_⟩, h4.trans (g2.n n)⟩
  have hi := h3.2 i
  simp only [mkS_getD] at hi ⊢
  by_cases hm : i < m
  · rw [if_pos hm] at hi ⊢
    simp only [lookA]
    by_cases e : j = i
    · subst e
      rw [if_pos rfl]
      rw [h] at hi
      have hv : tmps.getD j undef = .slice none 0 0 := hi
      rw [hv]
      exact g3
    · rw [if_neg e]
      exact hi.le g2
  · rw [if_neg hm]
    trivial
theorem Weak.nlM {d : AV} {m : Nat} : ∀ {js : List Nat} {l : List (Nat × AV)} {hp : List HC}, Weak n ⟨mkS d m l, hp⟩ ⟨mkS d m (Ev.nlM d js l hp).1, (Ev.nlM d js l hp).2⟩
  | [], l, hp => Weak.refl _ _
  | j :: js, l, hp => by
    simp only [Ev.nlM]
    split
    · rename_i t ht
      exact (Weak.nlSlot ht).trans Weak.nlM
    · exact Weak.nlM
def canonS (n : Nat) (fzs all olds : List Nat) (st : St) : St := rst n (trim n all olds (fz fzs st))
theorem Weak.canonS {fzs all olds : List Nat} {st : St} (k : keeps n olds (Ev.fz fzs st).hp = true) : Weak n st (Ev.canonS n fzs all olds st) := ((Weak.fz (l := fzs)).trans (Weak.trim k)).trans Weak.rst
theorem Back.ofC {α : Type} {S : α → St} {Inv : α → Prop} {m : α → Nat} {a : α} {s' : St} (fzs all olds : List Nat) (a' : α) (k : keeps n olds (fz fzs s').hp = true) (e : canonS n fzs all olds s' = S a') (h : Inv a') (hm : m a' < m a) : Back n S Inv m a s' :=
  ⟨_, m a', Weak.canonS k, ⟨a', h, e, rfl⟩, hm⟩
theorem evC_forC {P : Program} {X : Tbl P} {M : Mode P} {D : DrawP P} {α : Type} {b : Code} {d : AV} {m : Nat} {l : List (Nat × AV)} {hp : List HC} {K : Ex → St → Prop} (vary : α → List (Nat × AV)) (hps : α → List HC) (Inv : α → Prop) (μ : α → Nat) (js fzs all olds : List Nat) (a0 : α)
    (k0 : keeps n olds (fz fzs ⟨mkS d m (nlM d js l hp).1, (nlM d js l hp).2⟩).hp = true) (e0 : canonS n fzs all olds ⟨mkS d m (nlM d js l hp).1, (nlM d js l hp).2⟩ = ⟨mkS (.v (.one .u)) m (vary a0), hps a0⟩) (h0 : Inv a0)
    (round : ∀ a, Inv a → evC X M D n b ⟨mkS (.v (.one .u)) m (vary a), hps a⟩ fun e s' => match e with
      | .normal => Back n (fun a => ⟨mkS (.v (.one .u)) m (vary a), hps a⟩) Inv μ a s'
      | .exit id => K (.exit id) s'
      | .ret => K .ret s') : evC X M D n (.loop b) ⟨mkS d m l, hp⟩ K := by
  refine ⟨fun k s => ∃ a, Inv a ∧ s = ⟨mkS (.v (.one .u)) m (vary a), hps a⟩ ∧ μ a = k, μ a0, ⟨_, (Weak.nlM (js := js)).trans (Weak.canonS k0), a0, h0, e0, rfl⟩, ?_⟩
  rintro k s ⟨a, ha, rfl, rfl⟩
  exact round a ha
end

/-! Guards in a drawn region: what is asked is known behind it. -/
section
variable {P : Program} (X : Tbl P) (con : Nat → Option Co) (deps : List Nat)
def gX (ids : List Nat) (slot : Nat) (o : Oper) (want : Bool) (d : Nat) (tm : List AV) (hp : List HC) (K : St → Prop) : Option AV → Prop
  | some (.v (.one (.c .bool x))) => (match (x : Bool) with
    | true => if want then vA X con deps ids slot o (tm.set d (.v (.one (.c .bool true)))) hp K (isCallV o.op) else K ⟨putA (tm.set d (.v (.one (.c .bool true)))) o.dst (.tup []), hp⟩
    | false => if want then K ⟨putA (tm.set d (.v (.one (.c .bool false)))) o.dst (.tup []), hp⟩ else vA X con deps ids slot o (tm.set d (.v (.one (.c .bool false)))) hp K (isCallV o.op))
  | some (.tup []) => K ⟨putA tm o.dst (.tup []), hp⟩
  | _ => False
def gD (ids : List Nat) (slot : Nat) (o : Oper) (want : Bool) (tm : List AV) (hp : List HC) (K : St → Prop) : Option Tmp → Prop
  | none => False
  | some d => gX X con deps ids slot o want d tm hp K tm[d]?
variable {X con deps} {W : List (Nat × List Nat)} {ids : List Nat} {ops : List Oper} {anc : List Nat} {base : Nat}
theorem set_known {tm : List AV} {d : Nat} {a : AV} (h : tm[d]? = some a) : tm.set d a = tm := by
  apply List.ext_getElem?
  intro i
  rw [List.getElem?_set]
  split
  · rename_i e
    subst e
    split
    · exact h.symm
    · rename_i hl
      rw [List.getElem?_eq_none (by omega)]
  · rfl
theorem vW_gD {slot : Nat} {dst : Option Tmp} {op : Op} {ty : TypeId} {pos : String} {af : Array Edge} {j : Nat} {want : Bool} {tm : List AV} {hp : List HC} {K : St → Prop} :
    vW X con deps ids slot ⟨dst, op, ty, pos, af, some (j, want)⟩ tm hp K (wantD ops ⟨dst, op, ty, pos, af, some (j, want)⟩ tm) = gD X con deps ids slot ⟨dst, op, ty, pos, af, some (j, want)⟩ want tm hp K ((ops[j]?).bind (·.dst)) := by
  simp only [wantD]
  cases hd : (ops[j]?).bind (·.dst) with
  | none => rfl
  | some d =>
    simp only [gD]
    cases ht : tm[d]? with
    | none => rfl
    | some a =>
      have hs := set_known ht
      cases a with
      | tup l => cases l <;> rfl
      | v c =>
        cases c with
        | one s =>
          cases s with
          | c t x =>
            cases t with
            | bool =>
              have key : ∀ x : Bool, tm.set d (.v (.one (.c .bool x))) = tm → vW X con deps ids slot ⟨dst, op, ty, pos, af, some (j, want)⟩ tm hp K (some (x == want)) = gX X con deps ids slot ⟨dst, op, ty, pos, af, some (j, want)⟩ want d tm hp K (some (.v (.one (.c .bool x)))) := fun x hx => by
                cases x <;> cases want <;> simp only [gX, hx] <;> rfl
              exact key x hs
            | _ => rfl
          | _ => rfl
        | _ => rfl
theorem vL_guard {i off : Nat} {dst : Option Tmp} {op : Op} {ty : TypeId} {pos : String} {af : Array Edge} {j : Nat} {want : Bool} {l : List Oper} {tm : List AV} {hp : List HC} {K : St → Prop} :
    vL X con deps W ops anc base i off (⟨dst, op, ty, pos, af, some (j, want)⟩ :: l) ⟨tm, hp⟩ K = (Hold 0 (chkI W ops anc base i ⟨dst, op, ty, pos, af, some (j, want)⟩ tm) ∧ gD X con deps (Wof W i) (base + off) ⟨dst, op, ty, pos, af, some (j, want)⟩ want tm hp (fun s => vL X con deps W ops anc base (i + 1) (off + if isAl op then 1 else 0) l s K) ((ops[j]?).bind (·.dst))) := by
  rw [vL_some, vW_gD]
@[congr] theorem gD_c {slot slot' : Nat} {o : Oper} {want : Bool} {tm : List AV} {hp : List HC} {K : St → Prop} {ids' : List Nat} {q q' : Option Tmp} (hi : ids = ids') (hs : slot = slot') (h : q = q') : gD X con deps ids slot o want tm hp K q = gD X con deps ids' slot' o want tm hp K q' := by rw [hi, hs, h]
@[congr] theorem gX_c {slot : Nat} {o : Oper} {want : Bool} {d : Nat} {tm : List AV} {hp : List HC} {K : St → Prop} {q q' : Option AV} (h : q = q') : gX X con deps ids slot o want d tm hp K q = gX X con deps ids slot o want d tm hp K q' := by rw [h]
theorem gD_some {slot : Nat} {o : Oper} {want : Bool} {d : Nat} {tm : List AV} {hp : List HC} {K : St → Prop} : gD X con deps ids slot o want tm hp K (some d) = gX X con deps ids slot o want d tm hp K tm[d]? := rfl
theorem gX_tup {slot : Nat} {o : Oper} {want : Bool} {d : Nat} {tm : List AV} {hp : List HC} {K : St → Prop} : gX X con deps ids slot o want d tm hp K (some (.tup [])) = K ⟨putA tm o.dst (.tup []), hp⟩ := rfl
theorem gX_bool {slot : Nat} {o : Oper} {want : Bool} {d : Nat} {tm : List AV} {hp : List HC} {K : St → Prop} {x : Bool} : gX X con deps ids slot o want d tm hp K (some (.v (.one (.c .bool x)))) = (match x with
    | true => if want then vA X con deps ids slot o (tm.set d (.v (.one (.c .bool true)))) hp K (isCallV o.op) else K ⟨putA (tm.set d (.v (.one (.c .bool true)))) o.dst (.tup []), hp⟩
    | false => if want then K ⟨putA (tm.set d (.v (.one (.c .bool false)))) o.dst (.tup []), hp⟩ else vA X con deps ids slot o (tm.set d (.v (.one (.c .bool false)))) hp K (isCallV o.op)) := rfl
end
end Go.Proofs.Ytgkjgpiggjjmpaa.Ev
