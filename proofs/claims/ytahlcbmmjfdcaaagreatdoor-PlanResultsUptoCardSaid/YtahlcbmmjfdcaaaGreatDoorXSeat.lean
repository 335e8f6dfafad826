/- PX at this seat: the program's looks, the world of a witness, how large a reading is. -/
import Derived.Test.YtahlcbmmjfdcaaaGreatDoorCards
import Derived.Test.YtahlcbmmjfdcaaaGreatDoorTie
import Derived.WalkKit
import Derived.Deep.DeepHandedRow
import Derived.Lib.LaidTab
import Derived.Test.YtahlcbmmjfdcaaaGreatDoorPXRow
set_option linter.all false
namespace Go.Proofs.YtahlcbmmjfdcaaaGreatDoor.px
open Go Go.Proofs.YtahlcbmmjfdcaaaGreatDoor.PX Go.ChangeShapes Go.WideShapes Go.ChangeAt Go.RowKit
theorem own : ownKnob Tryz.prog.godebug = none := by kernel_rfl
theorem kids : Kids Tryz.prog (· < Tryz.prog.types.size) := kids_rows (by kernel_rfl) (by kernel_rfl)
theorem full : ∀ t e, t < Tryz.prog.types.size → Tryz.prog.underlying t = some (.slice e) → 0 < Tryz.prog.cellsOf e := slices_full_of Tryz.prog (by kernel_rfl)

/-! ### How large a reading is -/
theorem bulk_pos {H : Type} (d : DataW H) : 1 ≤ Rows.uptoBulk d := by
  cases d with
  | lit l => cases l <;> simp [Rows.uptoBulk]
  | nil => simp [Rows.uptoBulk]
  | ptr d => simp [Rows.uptoBulk]
  | slice elems spare => simp [Rows.uptoBulk]
  | agg parts => simp [Rows.uptoBulk]
  | iface t d => simp [Rows.uptoBulk]
  | map entries => simp [Rows.uptoBulk]
  | held h => simp [Rows.uptoBulk]
theorem bulk_all {H : Type} : ∀ l : List (DataW H), Rows.uptoBulkAll l = (l.map Rows.uptoBulk).sum
  | [] => by simp [Rows.uptoBulkAll]
  | d :: l => by simp [Rows.uptoBulkAll, bulk_all l]
def mu (H : Type) : Mu H where
  μ := Rows.uptoBulk
  str b := by simp [Rows.uptoBulk]
  pos d := bulk_pos d
  agg l := by simp [Rows.uptoBulk, bulk_all]
  slice l m := by simp only [Rows.uptoBulk, bulk_all]; omega

/-! ### A world for the witness -/
def cellsOfD {H : Type} : Nat → DataW H → List Value
  | n + 1, .agg l => l.flatMap (cellsOfD n)
  | _, .lit (.int k n) => [.int k n]
  | _, _ => []
noncomputable def lay (g : Nat) (cs : Array Value) (w : World) : World := { w with heap := w.heap.modify g fun
  | .cells _ t frozen => .cells cs t frozen
  | o => o }
noncomputable def laidWorld (os : Os) : World :=
  lay 0 (cellsOfD 3 Rows.laid_unicode_utf8_first).toArray (lay 1 (cellsOfD 3 (Rows.laid_unicode_utf8_acceptRanges (H := Unit))).toArray (lay 3 (cellsOfD 3 (Rows.laid_portmanteau_name_table (H := Unit))).toArray (World.holding Tryz.prog os ⟨#[], #[], []⟩)))
end Go.Proofs.YtahlcbmmjfdcaaaGreatDoor.px
