/- PlanResults: the contract of the law over the program, and the lifted claim. -/
import Derived.Test.YtahlcbmmjfdcaaaGreatDoorXSeat
import Derived.Test.YtahlcbmmjfdcaaaGreatDoorXP
import Derived.Test.YtahlcbmmjfdcaaaGreatDoorXPure
set_option linter.all false
set_option maxRecDepth 100000
namespace Go.Proofs.YtahlcbmmjfdcaaaGreatDoor.planResults
open Go Go.Proofs.YtahlcbmmjfdcaaaGreatDoor.PX Go.ChangeShapes Go.WideShapes Go.ChangeAt Go.RowKit px
theorem reads (os : Os) {H : Type} (enc : TypeId × Value → H) : ∃ places, DataW.whole enc Tryz.prog ((laidWorld os).forCall (fun _ _ => 0) ⟨#[], #[.slice none 0 0, .slice none 0 0, .slice none 0 0], []⟩).memory Tryz.f4.params.toList Rows.planResultsSpec.vars false #[Value.slice none 0 0, .slice none 0 0, .slice none 0 0].toList 8 = some ([.nil, .nil, .nil], [], places) :=
  ⟨[], by kernel_rfl⟩
theorem laid_met (os : Os) : laidMet Tryz.prog Rows.planResultsRow.laid ((laidWorld os).forCall (fun _ _ => 0) ⟨#[], #[.slice none 0 0, .slice none 0 0, .slice none 0 0], []⟩).memory :=
  laidMet_of_run' 8 (by kernel_rfl) (by kernel_rfl)
theorem contract (H : Type) (enc : TypeId × Value → H) (W : World) (base : Nat) (args : Array Value) (ds gs : List (DataW H)) (before : List MemPlace)
    (hval : ∀ (j : Nat) t v, Tryz.f4.params[j]? = some t → args[j]? = some v → Value.okWide Tryz.prog W .any base t v)
    (hW : DataW.Whole enc Tryz.prog Tryz.f4.params.toList Rows.planResultsSpec.vars false W args.toList ds gs before) (hb : Rows.uptoBulkAll (ds ++ gs) ≤ 1048576) (hL : laidMetH Tryz.prog Rows.planResultsRow.laid W) :
    Calls Tryz.prog 4 args W fun e W' => ∃ v, e = .returned v ∧ Rows.planResultsSpec.post enc Tryz.prog Tryz.f4 false true false false W args v W' := by
  have hW' := hW
  obtain ⟨p, q, hA, hV, rfl, hfz, hnd⟩ := hW
  rw [Tryz.params4] at hA hval
  obtain ⟨v0, vs0, d0, ds0, p0, q0, e0, rfl, rfl, h0, r0⟩ := trodAll_cons hA
  obtain ⟨v1, vs1, d1, ds1, p1, q1, rfl, rfl, rfl, h1, r1⟩ := trodAll_cons r0
  obtain ⟨v2, vs2, d2, ds2, p2, q2, rfl, rfl, rfl, h2, r2⟩ := trodAll_cons r1
  obtain ⟨rfl, rfl, rfl⟩ := trodAll_nil r2
  obtain ⟨rfl, rfl⟩ := trodVars_none hV
  obtain rfl : args = #[v0, v1, v2] := by cases args; simp_all
  obtain ⟨x0, f0, s0, k0⟩ := arg_slice (mu H) (n := 3) (zs := [.int .i64 0, .int .i64 0, .int .i64 0]) Tryz.underlying48 (by kernel_rfl) (by kernel_rfl) (by decide) (hval 0 48 v0 rfl rfl) h0
  obtain ⟨x1, f1, s1, k1⟩ := arg_slice (mu H) (n := 3) (zs := ti123.zero) Tryz.underlying38 (by kernel_rfl) (by kernel_rfl) (by decide) (hval 1 38 v1 rfl rfl) h1
  obtain ⟨x2, f2, s2, k2⟩ := arg_slice (mu H) (n := 3) (zs := ti123.zero) Tryz.underlying38 (by kernel_rfl) (by kernel_rfl) (by decide) (hval 2 38 v2 rfl rfl) h2
  have hsz : szE x0 + szE x1 + szE x2 ≤ 1048576 := by
    simp only [bulk_all, List.map_append, List.map_cons, List.map_nil, List.sum_append, List.sum_cons, List.sum_nil] at hb
    have a0 : (mu H).μ d0 = Rows.uptoBulk d0 := rfl
    have a1 : (mu H).μ d1 = Rows.uptoBulk d1 := rfl
    have a2 : (mu H).μ d2 = Rows.uptoBulk d2 := rfl
    omega
  have hG : GRel E0 W (Ro W [] γ0) := fun g l hl => by cases hl
  have key := law_calls ok4 Tryz.call4 (tvs := [.lf (.d (.sl 3 x0 .any)), .lf (.d (.sl 8 x1 .any)), .lf (.d (.sl 8 x2 .any))]) (vs := [v0, v1, v2]) hG
    (Pt.cons (k0 _ fun b hb => ro0 hb) (Pt.cons (k1 _ fun b hb => ro0 hb) (Pt.cons (k2 _ fun b hb => ro0 hb) Pt.nil)))
    (by unfold c4; exact pure_law x0 x1 x2 f0 f1 f2 hsz (fun b => [TV.lf (.d (.bool b))] = [TV.lf (.d (.bool true))]) rfl)
  refine Calls.mono' key fun e W' ⟨he, hk⟩ => ?_
  subst he
  exact ⟨_, rfl, post_true rfl ⟨by kernel_rfl, by kernel_rfl⟩ Tryz.underlying4 kids full (by rw [Tryz.params4]; decide) hW' ⟨rfl, rfl, rfl⟩ hk⟩
theorem liftedUpto (os : Os) (started : os.Started) (H : Type) (enc : TypeId × Value → H) (F : Stop.Interp) :
    ReturnsInHanded {} Tryz.checked os 4 .any ((Rows.OpenSpec.upto Rows.planResultsSpec).preRow enc Tryz.prog Tryz.f4 Rows.planResultsUptoRow.domain false Rows.planResultsUptoRow.laid) (((Rows.OpenSpec.upto Rows.planResultsSpec).at F).post enc Tryz.prog Tryz.f4 false true false false) := by
  obtain ⟨places, hx⟩ := reads os enc
  refine returnsInHanded_of_row (C := Tryz.checked) (s := Rows.OpenSpec.upto Rows.planResultsSpec) own started (by kernel_rfl) Tryz.func4
    (witness_row_at (enc := enc) (C := Tryz.checked) false (laidWorld os) #[.slice none 0 0, .slice none 0 0, .slice none 0 0] rfl (by kernel_rfl) (by kernel_rfl) (by kernel_rfl)
      (OpenSpec.preRow_of_cond 8 hx (by kernel_rfl) (fun k hk => by cases hk; kernel_rfl) (by kernel_rfl) (laid_met os))) ?_
  intro W base args ds gs before hval hW _ hc _ hL _ _
  exact contract H enc W base args ds gs before hval hW (of_decide_eq_true (hc _ rfl)) hL
end Go.Proofs.YtahlcbmmjfdcaaaGreatDoor.planResults
