/- Lemmas for the claim: walks of functions that the law calls (no condition.) -/
import Derived.Test.YtgkjgpiggjjmpaaAt8
import Derived.Test.YtgkjgpiggjjmpaaEvC
import Derived.Test.YtgkjgpiggjjmpaaRows
import Derived.Test.YtgkjgpiggjjmpaaChecked
import Derived.WalkKit
namespace Go.Proofs.Ytgkjgpiggjjmpaa.Ev
open Go Go.ChangeShapes Go.WideShapes Go.ChangeAt Go.RowKit
open Go.Proofs.Ytgkjgpiggjjmpaa
set_option linter.unusedVariables false
set_option maxRecDepth 100000

theorem ownT : ownKnob Try.prog.godebug = none := by kernel_rfl
theorem laidOutT : laidOutB Try.prog = true := by kernel_rfl

theorem atomTurns_lifted (os : Os) (started : os.Started) (H : Type) (enc : TypeId × Value → H) :
    ReturnsInHanded {} Try.checked os 5 .any (Rows.atomTurnsSpec.pre6 enc Try.prog Try.f5 Rows.atomTurnsRow.domain false) (Rows.atomTurnsSpec.post enc Try.prog Try.f5 false true false false) := by
  refine returnsInHanded_of_change_sized (C := Try.checked) ownT started (by kernel_rfl) Try.func5
    (ChangeSpec.witness6 (enc := enc) (C := Try.checked) false ⟨#[], #[.slice none 0 0, .int .u8 0, .slice none 0 0, .int .u8 0, .int .u8 0], []⟩ 8 (by kernel_rfl) (by kernel_rfl) (by kernel_rfl) (by kernel_rfl)) ?_
  intro W base args ds gs before hval hW _ hsz _
  refine law_contract (P := Try.prog) (k := 5) (f := Try.f5) (s := Rows.atomTurnsSpec) (Ts := [.sl (.sl tIns), .int .u8, .sl tI, .int .u8, .int .u8]) (by kernel_rfl) (by kernel_rfl) laidOutT (by kernel_rfl) rfl Try.underlying4 rfl ?_ ?_ W args ds gs before hval hW hsz
  · intro ds h
    match ds, h with
    | [_, _, _, _, _], _ => exact ⟨rfl, rfl, rfl⟩
  · rintro ⟨l, words, picks, x, y, ⟨⟩⟩ ⟨_, _, _, hx, hy, _⟩
    exact turns_walk l words picks x y (Int.le_trans (by decide) hx.1) (Int.lt_of_le_of_lt hx.2 (by decide)) (Int.le_trans (by decide) hy.1) (Int.lt_of_le_of_lt hy.2 (by decide))

theorem atomTurns_over : Rows.atomTurnsRow.holds Try.pinned (OpenSpec.ofChange Rows.atomTurnsSpec) :=
  OpenClaim.holds_of_wide 5 Try.f5 rfl rfl rfl rfl rfl rfl rfl ⟨rfl, rfl, rfl, rfl, rfl⟩ rfl rfl rfl rfl rfl (by kernel_rfl) Try.func5 (by kernel_rfl)
    (of_decide_eq_true (by kernel_rfl)) (by unfold Func.isWrapper; first | (rw [if_pos (by decide +kernel)]; kernel_rfl) | (rw [if_neg (by decide +kernel)]; exact ⟨rfl, rfl⟩))
    (fun os started H enc _ => atomTurns_lifted os started H enc)
end Go.Proofs.Ytgkjgpiggjjmpaa.Ev
namespace Go.Proofs.Ytgkjgpiggjjmpaa
theorem atomTurns_holds : Rows.AtomTurnsSaid := Go.Proofs.Ytgkjgpiggjjmpaa.Ev.atomTurns_over
end Go.Proofs.Ytgkjgpiggjjmpaa
