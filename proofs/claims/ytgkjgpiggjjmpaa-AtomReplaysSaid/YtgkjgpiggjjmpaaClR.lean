/- Lemmas for the claim: walks of functions that the law calls (no condition.) -/
import Derived.Test.YtgkjgpiggjjmpaaAt7
import Derived.Test.YtgkjgpiggjjmpaaEvC
import Derived.Test.YtgkjgpiggjjmpaaRows
import Derived.Test.YtgkjgpiggjjmpaaChecked
import Derived.WalkKit
namespace Go.Proofs.Ytgkjgpiggjjmpaa.Ev
open Go Go.ChangeShapes Go.WideShapes Go.ChangeAt Go.RowKit
open Go.Proofs.Ytgkjgpiggjjmpaa
set_option linter.unusedVariables false
set_option maxRecDepth 100000

theorem own : ownKnob Try.prog.godebug = none := by kernel_rfl
theorem laidOut : laidOutB Try.prog = true := by kernel_rfl

theorem atomReplays_lifted (os : Os) (started : os.Started) (H : Type) (enc : TypeId × Value → H) :
    ReturnsInHanded {} Try.checked os 4 .any (Rows.atomReplaysSpec.pre6 enc Try.prog Try.f4 Rows.atomReplaysRow.domain false) (Rows.atomReplaysSpec.post enc Try.prog Try.f4 false true false false) := by
  refine returnsInHanded_of_change_sized (C := Try.checked) own started (by kernel_rfl) Try.func4
    (ChangeSpec.witness6 (enc := enc) (C := Try.checked) false ⟨#[], #[.slice none 0 0, .int .u8 0, .slice none 0 0], []⟩ 8 (by kernel_rfl) (by kernel_rfl) (by kernel_rfl) (by kernel_rfl)) ?_
  intro W base args ds gs before hval hW _ hsz _
  refine law_contract (P := Try.prog) (k := 4) (f := Try.f4) (s := Rows.atomReplaysSpec) (Ts := [.sl (.sl tIns), .int .u8, .sl (.int .u8)]) (by kernel_rfl) (by kernel_rfl) laidOut (by kernel_rfl) rfl Try.underlying4 rfl ?_ ?_ W args ds gs before hval hW hsz
  · intro ds h
    match ds, h with
    | [_, _, _], _ => exact ⟨rfl, rfl, rfl⟩
  · rintro ⟨l, words, picks, ⟨⟩⟩ ⟨_, _, hp, _⟩
    exact replays_walk l words picks fun x hx => by
      have := hp x hx
      exact ⟨Int.le_trans (by decide) this.1, Int.lt_of_le_of_lt this.2 (by decide)⟩

theorem atomReplays_over : Rows.atomReplaysRow.holds Try.pinned (OpenSpec.ofChange Rows.atomReplaysSpec) :=
  OpenClaim.holds_of_wide 4 Try.f4 rfl rfl rfl rfl rfl rfl rfl ⟨rfl, rfl, rfl, rfl, rfl⟩ rfl rfl rfl rfl rfl (by kernel_rfl) Try.func4 (by kernel_rfl)
    (of_decide_eq_true (by kernel_rfl)) (by unfold Func.isWrapper; first | (rw [if_pos (by decide +kernel)]; kernel_rfl) | (rw [if_neg (by decide +kernel)]; exact ⟨rfl, rfl⟩))
    (fun os started H enc _ => atomReplays_lifted os started H enc)
end Go.Proofs.Ytgkjgpiggjjmpaa.Ev
namespace Go.Proofs.Ytgkjgpiggjjmpaa
theorem atomReplays_holds : Rows.AtomReplaysSaid := Go.Proofs.Ytgkjgpiggjjmpaa.Ev.atomReplays_over
end Go.Proofs.Ytgkjgpiggjjmpaa
