/- Part of the proof that PlanResults answers true: see the last text. -/
import Derived.Test.YtahlcbmmjfdcaaaGreatDoorXRowPRj
set_option linter.all false
set_option maxRecDepth 100000
namespace Go.Proofs.YtahlcbmmjfdcaaaGreatDoor.planResults
open Go Go.Proofs.YtahlcbmmjfdcaaaGreatDoor.PX Go.ChangeShapes Go.WideShapes Go.ChangeAt Go.RowKit px
theorem saidUpto : Rows.PlanResultsUptoSaid :=
  OpenClaim.holds_of_cond 4 Tryz.f4 rfl rfl rfl rfl rfl rfl rfl ⟨rfl, rfl, rfl, rfl, rfl⟩ rfl rfl rfl rfl rfl (by kernel_rfl) Tryz.func4 closed
    (of_decide_eq_true (by kernel_rfl)) (by unfold Func.isWrapper; first | (rw [if_pos (by decide +kernel)]; kernel_rfl) | (rw [if_neg (by decide +kernel)]; exact ⟨rfl, rfl⟩))
    (fun os started H enc _ F => by rw [OpenClaim.pre_eq_preRow]; exact liftedUpto os started H enc F)
end Go.Proofs.YtahlcbmmjfdcaaaGreatDoor.planResults
