/- Part of the proof that PlanResults answers true: see the last text. -/
import Derived.Test.YtahlcbmmjfdcaaaGreatDoorXRowPR2
set_option linter.all false
set_option maxRecDepth 100000
namespace Go.Proofs.YtahlcbmmjfdcaaaGreatDoor.planResults
open Go Go.Proofs.YtahlcbmmjfdcaaaGreatDoor.PX Go.ChangeShapes Go.WideShapes Go.ChangeAt Go.RowKit px
theorem plain (f : FuncId) (fn : Func) (hf : Tryz.pinned.checked.prog.funcNamed "portmanteau/portmanteaulaw24.PlanResults" = some f) (hfn : Tryz.pinned.checked.prog.funcs[f]? = some fn) :
    false = Tryz.pinned.checked.prog.looks [] ∧ ∀ (j : Nat) t, fn.params[j]? = some t → Tryz.pinned.checked.prog.wantsStandIn t = false := by
  obtain rfl : f = 4 := Option.some.inj ((show Tryz.prog.funcNamed "portmanteau/portmanteaulaw24.PlanResults" = some 4 by kernel_rfl).symm.trans hf) |>.symm
  obtain rfl : fn = Tryz.f4 := (Option.some.inj (Tryz.func4.symm.trans hfn)).symm
  refine ⟨by kernel_rfl, fun j t ht => ?_⟩
  rw [Tryz.params4] at ht
  have hm := Array.mem_of_getElem? ht
  simp at hm
  rcases hm with rfl | rfl
  · exact (show Tryz.prog.wantsStandIn 48 = false by kernel_rfl)
  · exact (show Tryz.prog.wantsStandIn 38 = false by kernel_rfl)
theorem cardUpto : Rows.PlanResultsUptoCardSaid :=
  Claim7.holds_tied_plain_at .later [] _ _ _ _ saidUpto (fun _ h => by cases h) (by kernel_rfl) (fun _ h => by cases h) planResultsUpto_row_tie rfl ⟨rfl, rfl⟩ (by kernel_rfl) rfl plain (by kernel_rfl)
end Go.Proofs.YtahlcbmmjfdcaaaGreatDoor.planResults
