/- Lemmas for the claim: Cores on one memory, in plain Lean. (no condition.) -/
import Derived.Test.YtgkjgpiggjjmpaaAt6
/-! Cores on one memory, in plain Lean. -/
namespace Go.Proofs.Ytgkjgpiggjjmpaa.Ev
open Go
set_option linter.unusedVariables false

theorem u64w (n : Int) : IntKind.u64.wrap n = n % 18446744073709551616 := by simp [IntKind.wrap, IntKind.bits, IntKind.signed]
theorem i64w (n : Int) : IntKind.i64.wrap n = if n % 18446744073709551616 ≥ 9223372036854775808 then n % 18446744073709551616 - 18446744073709551616 else n % 18446744073709551616 := by simp [IntKind.wrap, IntKind.bits, IntKind.signed]
theorem wrap_same {k n : Int} (h : IntKind.u64.wrap k < n) (hn : n ≤ 64) : IntKind.i64.wrap k = IntKind.u64.wrap k ∧ 0 ≤ IntKind.u64.wrap k := by
  rw [u64w] at h
  rw [u64w, i64w]
  refine ⟨?_, by omega⟩
  split <;> omega
theorem wrap_len {n : Int} (h0 : 0 ≤ n) (hn : n ≤ 64) : IntKind.u64.wrap n = n := by
  rw [u64w]; omega
theorem useK (op : Int) : useB op 8 = (op == 1 || op == 14 || op == 13) := by
  unfold useB usesN
  split
  · rename_i h
    rw [show (bitI .and .i64 9 8 != 0) = true from by decide]
    rw [h]; rfl
  · rename_i h0
    have h0 : (op == 1 || op == 14) = false := by simpa using h0
    rw [h0, Bool.false_or]
    split
    · rename_i h
      rw [show (bitI .and .i64 7 8 != 0) = false from by decide]
      simp only [Bool.or_eq_true, beq_iff_eq] at h
      symm; simp only [beq_eq_false_iff_ne]; omega
    · split
      · rename_i h
        rw [show (bitI .and .i64 3 8 != 0) = false from by decide]
        simp only [Bool.or_eq_true, beq_iff_eq] at h
        symm; simp only [beq_eq_false_iff_ne]; omega
      · split
        · rename_i h
          rw [show (bitI .and .i64 8 8 != 0) = true from by decide, h]
        · rename_i h
          have h : (op == 13) = false := by simpa using h
          rw [h]
          split
          · decide
          · decide

theorem ins_jump {x : Ins} {n : Int} (h : insMay x n = true) (hn : n ≤ 64) (hk : x.1 = 13 ∨ x.1 = 14) : 0 ≤ IntKind.i64.wrap x.2.2.2.2.1 ∧ IntKind.i64.wrap x.2.2.2.2.1 < n := by
  simp only [insMay, Bool.and_eq_true, Bool.or_eq_true, beq_iff_eq] at h
  have h2 := h.2
  rcases h2 with h2 | h2
  · omega
  · have : useB x.1 8 = true := by rw [useK]; rcases hk with e | e <;> rw [e] <;> decide
    rw [this] at h2
    simp only [↓reduceIte, Bool.and_eq_true, decide_eq_true_eq] at h2
    obtain ⟨h3, h4⟩ := h2
    rw [wrap_len (by omega) hn] at h4
    obtain ⟨h5, h6⟩ := wrap_same h4 hn
    rw [h5]
    exact ⟨h6, h4⟩

theorem right_last {p : List Ins} (h : isaRight p = true) : (p.getD (p.length - 1) insZ).1 = 16 ∨ (p.getD (p.length - 1) insZ).1 = 13 := by
  simp only [isaRight, Bool.and_eq_true, Bool.or_eq_true, beq_iff_eq] at h
  exact h.1.2

theorem done_right {p : List Ins} {c : Core} {was : Int} (h : coreRight p c = true) : coreRight p (done p c was) = true := by
  have hc := h
  obtain ⟨h1, h2, h3⟩ := core_ins h
  have h4 := core_len h
  have hr : isaRight p = true := by simp only [coreRight, Bool.and_eq_true] at h; exact h.1.1
  have mk : ∀ (r : List Int) (pc : Int) (hl : Bool), 0 ≤ pc → pc < p.length → coreRight p (r, pc, hl, ()) = true := fun r pc hl a b => by
    simp only [coreRight, hr, Bool.true_and, Bool.and_eq_true, decide_eq_true_eq]; exact ⟨a, b⟩
  have next : ∀ r hl, (p.getD c.2.1.toNat insZ).1 ≠ 16 → (p.getD c.2.1.toNat insZ).1 ≠ 13 → coreRight p (r, c.2.1 + 1, hl, ()) = true := fun r hl a b => by
    refine mk r _ hl (by omega) ?_
    by_cases hlt : c.2.1 + 1 < p.length
    · exact hlt
    · have e : c.2.1.toNat = p.length - 1 := by omega
      have := right_last hr
      rw [← e] at this
      omega
  unfold done
  split
  · exact hc
  · simp only
    split
    · rename_i e; simp only [beq_iff_eq] at e; exact next _ _ (by omega) (by omega)
    · split
      · rename_i e; simp only [Bool.or_eq_true, beq_iff_eq] at e; exact next _ _ (by omega) (by omega)
      · split
        · rename_i e; simp only [beq_iff_eq] at e
          obtain ⟨a, b⟩ := ins_jump h3 h4 (.inl e)
          exact mk _ _ _ a b
        · split
          · rename_i e; simp only [beq_iff_eq] at e
            obtain ⟨a, b⟩ := ins_jump h3 h4 (.inr e)
            split
            · exact mk _ _ _ a b
            · exact next _ _ (by omega) (by omega)
          · split
            · exact mk _ _ _ h1 h2
            · rename_i e1 e2 e3 e4 e5
              simp only [Bool.or_eq_true, beq_iff_eq] at e1 e2 e3 e4 e5
              split
              · exact next _ _ (by omega) (by omega)
              · exact next _ _ (by omega) (by omega)

/-- A machine that is right. -/
structure Ok (l : List (List Ins)) (m : List Int) (c : List Core) : Prop where
  all : isaAll l = true
  m1 : 1 ≤ m.length
  m2 : m.length ≤ 64
  len : c.length = l.length
  cores : ∀ k, k < c.length → coreRight (l.getD k []) (c.getD k coreZ) = true
theorem Ok.right {l : List (List Ins)} {m : List Int} {c : List Core} {o : List Told} (h : Ok l m c) : atomRight l (m, c, o, ()) = true := by
  have e := decide_eq_true h.cores
  simp only [atomRight, h.all, e, Bool.and_true, Bool.true_and, Bool.and_eq_true, decide_eq_true_eq]
  have := h.m1
  have := h.m2
  have := h.len
  omega
theorem Ok.of {l : List (List Ins)} {a : Atom} (h : atomRight l a = true) : Ok l a.1 a.2.1 := by
  simp only [atomRight, Bool.and_eq_true, decide_eq_true_eq] at h
  exact ⟨h.1.1.1.1, by omega, by omega, by omega, h.2⟩
theorem getD_set {α : Type} {c : List α} {n k : Nat} {x d : α} : (c.set n x).getD k d = if n = k ∧ n < c.length then x else c.getD k d := by
  rw [List.getD_eq_getElem?_getD, List.getElem?_set, List.getD_eq_getElem?_getD]
  by_cases e : n = k
  · subst e
    by_cases h : n < c.length
    · simp [h]
    · simp [h]
  · simp [e]
theorem Ok.step {l : List (List Ins)} {m : List Int} {c : List Core} (h : Ok l m c) {n : Int} (h0 : 0 ≤ n) (h1 : n < c.length) : Ok l (stepMem l m c n) (stepCores l m c n) := by
  refine ⟨h.all, by rw [stepMem_len]; exact h.m1, by rw [stepMem_len]; exact h.m2, by rw [stepCores_len]; exact h.len, fun k hk => ?_⟩
  rw [stepCores_len] at hk
  unfold stepCores
  rw [getD_set]
  split
  · rename_i e
    rw [← e.1]
    exact done_right (h.cores _ (by omega))
  · exact h.cores k hk
theorem Ok.new {l : List (List Ins)} {wd : Int} (hall : isaAll l = true) (h1 : 1 ≤ wd) (h2 : wd ≤ 64) : Ok l (List.replicate wd.toNat 0) (List.replicate l.length coreZ) := by
  refine ⟨hall, by simp; omega, by simp; omega, by simp, fun k hk => ?_⟩
  simp only [List.length_replicate] at hk
  have hp : isaRight (l.getD k []) = true := by
    simp only [isaAll, Bool.and_eq_true, Bool.not_eq_true', List.any_eq_false] at hall
    have := hall.2 (l.getD k []) (by rw [List.getD_eq_getElem?_getD, List.getElem?_eq_getElem hk]; exact List.getElem_mem _)
    simpa using this
  have hlen : 1 ≤ ((l.getD k []).length : Int) := by simp only [isaRight, Bool.and_eq_true, decide_eq_true_eq] at hp; exact hp.1.1.1
  have e : (List.replicate l.length coreZ).getD k coreZ = coreZ := by
    rw [List.getD_eq_getElem?_getD, List.getElem?_replicate, if_pos hk]; rfl
  rw [e]
  show (isaRight (l.getD k []) && decide ((0 : Int) ≤ 0) && decide ((0 : Int) < (l.getD k []).length)) = true
  rw [hp, decide_eq_true (by omega : (0 : Int) < (l.getD k []).length)]
  rfl
theorem stepA_ok {l : List (List Ins)} {m : List Int} {c : List Core} {o : List Told} (h : Ok l m c) {n : Int} (h0 : 0 ≤ n) (h1 : n < c.length) : stepA l (m, c, o, ()) n = ((stepMem l m c n, stepCores l m c n, stepOuts l m c o n, ()), 0) := by
  rw [stepA, if_neg]
  · rfl
  · simp only [h.right, Bool.not_true, Bool.false_or, Bool.or_eq_true, decide_eq_true_eq]
    omega
theorem outs_take (l : List (List Ins)) (m : List Int) (c : List Core) (o : List Told) (n : Int) : (stepOuts l m c o n).take o.length = o := by
  unfold stepOuts
  split
  · rw [List.take_append_of_le_length (Nat.le_refl _), List.take_length]
  · exact List.take_length
/-- Nothing is done by who has halted. -/
theorem halted_wants {l : List (List Ins)} {m : List Int} {c : List Core} {n : Int} (h : (c.getD n.toNat coreZ).2.2.1 = true) : stepWant l m c n = (5, 0, 0, 0, ()) := by
  unfold stepWant wants
  rw [if_pos (by simp only [h, Bool.or_true, Bool.true_or])]
theorem halted_core {p : List Ins} {c : Core} {was : Int} (h : c.2.2.1 = true) : done p c was = c := by
  unfold done
  rw [if_pos (by simp only [h, Bool.or_true])]
theorem set_same {α : Type} {c : List α} {n : Nat} {d : α} : c.set n (c.getD n d) = c := by
  apply List.ext_getElem?
  intro i
  rw [List.getElem?_set]
  by_cases e : n = i
  · subst e
    by_cases h : n < c.length
    · simp [h, List.getD_eq_getElem?_getD]
    · simp [h]
  · simp [e]
theorem halted_step {l : List (List Ins)} {m : List Int} {c : List Core} {o : List Told} {n : Int} (h : (c.getD n.toNat coreZ).2.2.1 = true) : stepMem l m c n = m ∧ stepCores l m c n = c ∧ stepOuts l m c o n = o := by
  have hw := halted_wants (l := l) (m := m) h
  refine ⟨?_, ?_, ?_⟩
  · unfold stepMem; rw [hw]; unfold actMem; rw [if_pos (by simp)]
  · unfold stepCores; rw [halted_core h]; exact set_same
  · unfold stepOuts; rw [hw]; rw [if_neg (by decide)]
theorem over_halted {c : List Core} (h : overC c = true) {n : Nat} (hn : n < c.length) : (c.getD n coreZ).2.2.1 = true := by
  simp only [overC, Bool.not_eq_true', List.any_eq_false] at h
  have := h (c.getD n coreZ) (by rw [List.getD_eq_getElem?_getD, List.getElem?_eq_getElem hn]; exact List.getElem_mem _)
  simpa using this
theorem step_other {l : List (List Ins)} {m : List Int} {c : List Core} {n : Int} {k : Nat} (h : n.toNat ≠ k) : (stepCores l m c n).getD k coreZ = c.getD k coreZ := by
  unfold stepCores
  rw [getD_set, if_neg (fun e => h e.1)]
/-- One word at most is turned. -/
theorem step_word (l : List (List Ins)) (m : List Int) (c : List Core) (n : Int) : ∃ p : Nat, ∀ k, k ≠ p → (stepMem l m c n).getD k 0 = m.getD k 0 := by
  unfold stepMem actMem
  split
  · exact ⟨0, fun _ _ => rfl⟩
  · split
    · exact ⟨_, fun k hk => by rw [getD_set, if_neg (fun e => hk e.1.symm)]⟩
    · exact ⟨0, fun _ _ => rfl⟩
theorem runF_ok {l : List (List Ins)} {m : List Int} {c : List Core} {o : List Told} {n : Int} (h0 : 0 ≤ n) (h1 : n < c.length) : runF l (m, c, o, ()) n = (stepMem l m c n, stepCores l m c n, stepOuts l m c o n, ()) := by
  rw [runF, if_pos ⟨h0, h1⟩]; rfl
end Go.Proofs.Ytgkjgpiggjjmpaa.Ev
