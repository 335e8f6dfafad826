/- Part of the proof that PlanResults answers true: see the last text. -/
import Derived.Test.YtahlcbmmjfdcaaaGreatDoorProg
import Derived.Test.YtahlcbmmjfdcaaaGreatDoorPXPrn
import Derived.Test.YtahlcbmmjfdcaaaGreatDoorPXTok
import Derived.Test.YtahlcbmmjfdcaaaGreatDoorPXRun
set_option linter.all false
set_option maxRecDepth 100000
set_option linter.unusedVariables false
namespace Go.Proofs.YtahlcbmmjfdcaaaGreatDoor.PX
open Go.Proofs
def ti3 : TI := { k := .int .i64, size := 1, bytes := 8, zero := [.int .i64 0], agg := false }
def ti4 : TI := { k := .bool, size := 1, bytes := 1, zero := [.bool false], agg := false }
def ti9 : TI := { k := .str, size := 1, bytes := 16, zero := [.str []], agg := false }
def ti25 : TI := { k := .struct [(0, 1), (1, 1), (2, 1), (3, 1), (4, 1), (5, 1), (6, 1)], size := 7, bytes := 56, zero := [.int .i64 0, .int .u32 0, .int .u32 0, .int .u32 0, .int .i64 0, .int .i64 0, .str []], agg := true, eq := true }
def ti38 : TI := { k := .slice 123, size := 1, bytes := 24, zero := [.sl 8 [] .nil], agg := false }
def ti41 : TI := { k := .int .i64, size := 1, bytes := 8, zero := [.int .i64 0], agg := false }
def ti48 : TI := { k := .slice 84, size := 1, bytes := 24, zero := [.sl 3 [] .nil], agg := false }
def ti52 : TI := { k := .slice 94, size := 1, bytes := 24, zero := [.sl 3 [] .nil], agg := false }
def ti54 : TI := { k := .arr 5 3, size := 5, bytes := 40, zero := [.int .i64 0, .int .i64 0, .int .i64 0, .int .i64 0, .int .i64 0], agg := true, big := true, eq := true }
def ti63 : TI := { k := .slice 9, size := 1, bytes := 24, zero := [.sl 1 [] .nil], agg := false }
def ti73 : TI := { k := .slice 166, size := 1, bytes := 24, zero := [.sl 17 [] .nil], agg := false }
def ti76 : TI := { k := .slice 230, size := 1, bytes := 24, zero := [.sl 1 [] .nil], agg := false }
def ti78 : TI := { k := .struct [(0, 1), (1, 1)], size := 2, bytes := 48, zero := [.sl 1 [] .nil, .sl 1 [] .nil], agg := true }
def ti84 : TI := { k := .struct [(0, 1), (1, 1), (2, 1)], size := 3, bytes := 24, zero := [.int .i64 0, .int .i64 0, .int .i64 0], agg := true, eq := true }
def ti94 : TI := { k := .struct [(0, 1), (1, 1), (2, 1)], size := 3, bytes := 24, zero := [.int .i64 0, .int .i64 0, .int .i64 0], agg := true, eq := true }
def ti123 : TI := { k := .struct [(0, 1), (1, 7)], size := 8, bytes := 72, zero := [.str [], .int .i64 0, .int .u32 0, .int .u32 0, .int .u32 0, .int .i64 0, .int .i64 0, .str []], agg := true, eq := true }
def ti143 : TI := { k := .func, size := 1, bytes := 8, zero := [.nilfn], agg := false }
def ti171 : TI := { k := .slice 3, size := 1, bytes := 24, zero := [.sl 1 [] .nil], agg := false }
def ti174 : TI := { k := .map 9 4, size := 1, bytes := 8, zero := [.nilmap], agg := false }
def ti233 : TI := { k := .map 9 3, size := 1, bytes := 8, zero := [.nilmap], agg := false }
def ti378 : TI := { k := .func, size := 1, bytes := 8, zero := [.nilfn], agg := false }
theorem tok3 : TOK Tryz.prog 3 ti3 := tok_mk (i := Tryz.t3) Tryz.type3 (by kernel_rfl) Tryz.underlying3 (.inl rfl)
theorem tok4 : TOK Tryz.prog 4 ti4 := tok_mk (i := Tryz.t4) Tryz.type4 (by kernel_rfl) Tryz.underlying4 (.inl rfl)
theorem tok9 : TOK Tryz.prog 9 ti9 := tok_mk (i := Tryz.t9) Tryz.type9 (by kernel_rfl) Tryz.underlying9 (.inl rfl)
theorem tok25 : TOK Tryz.prog 25 ti25 := tok_mk (i := Tryz.t25) Tryz.type25 (by kernel_rfl) ⟨_, Tryz.underlying25, by kernel_rfl⟩ (.inr ⟨by kernel_rfl, by kernel_rfl, Tryz.eqGuardType25⟩)
theorem tok38 : TOK Tryz.prog 38 ti38 := tok_mk (i := Tryz.t38) Tryz.type38 (by kernel_rfl) Tryz.underlying38 (.inl rfl)
theorem tok41 : TOK Tryz.prog 41 ti41 := tok_mk (i := Tryz.t41) Tryz.type41 (by kernel_rfl) Tryz.underlying41 (.inl rfl)
theorem tok48 : TOK Tryz.prog 48 ti48 := tok_mk (i := Tryz.t48) Tryz.type48 (by kernel_rfl) Tryz.underlying48 (.inl rfl)
theorem tok52 : TOK Tryz.prog 52 ti52 := tok_mk (i := Tryz.t52) Tryz.type52 (by kernel_rfl) Tryz.underlying52 (.inl rfl)
theorem tok54 : TOK Tryz.prog 54 ti54 := tok_mk (i := Tryz.t54) Tryz.type54 (by kernel_rfl) Tryz.underlying54 (.inr ⟨by kernel_rfl, by kernel_rfl, Tryz.eqGuardType54⟩)
theorem tok63 : TOK Tryz.prog 63 ti63 := tok_mk (i := Tryz.t63) Tryz.type63 (by kernel_rfl) Tryz.underlying63 (.inl rfl)
theorem tok73 : TOK Tryz.prog 73 ti73 := tok_mk (i := Tryz.t73) Tryz.type73 (by kernel_rfl) Tryz.underlying73 (.inl rfl)
theorem tok76 : TOK Tryz.prog 76 ti76 := tok_mk (i := Tryz.t76) Tryz.type76 (by kernel_rfl) Tryz.underlying76 (.inl rfl)
theorem tok78 : TOK Tryz.prog 78 ti78 := tok_mk (i := Tryz.t78) Tryz.type78 (by kernel_rfl) ⟨_, Tryz.underlying78, by kernel_rfl⟩ (.inl rfl)
theorem tok84 : TOK Tryz.prog 84 ti84 := tok_mk (i := Tryz.t84) Tryz.type84 (by kernel_rfl) ⟨_, Tryz.underlying84, by kernel_rfl⟩ (.inr ⟨by kernel_rfl, by kernel_rfl, Tryz.eqGuardType84⟩)
theorem tok94 : TOK Tryz.prog 94 ti94 := tok_mk (i := Tryz.t94) Tryz.type94 (by kernel_rfl) ⟨_, Tryz.underlying94, by kernel_rfl⟩ (.inr ⟨by kernel_rfl, by kernel_rfl, Tryz.eqGuardType94⟩)
theorem tok123 : TOK Tryz.prog 123 ti123 := tok_mk (i := Tryz.t123) Tryz.type123 (by kernel_rfl) ⟨_, Tryz.underlying123, by kernel_rfl⟩ (.inr ⟨by kernel_rfl, by kernel_rfl, Tryz.eqGuardType123⟩)
theorem tok143 : TOK Tryz.prog 143 ti143 := tok_mk (i := Tryz.t143) Tryz.type143 (by kernel_rfl) ⟨_, _, _, Tryz.underlying143⟩ (.inl rfl)
theorem tok171 : TOK Tryz.prog 171 ti171 := tok_mk (i := Tryz.t171) Tryz.type171 (by kernel_rfl) Tryz.underlying171 (.inl rfl)
theorem tok174 : TOK Tryz.prog 174 ti174 := tok_mk (i := Tryz.t174) Tryz.type174 (by kernel_rfl) Tryz.underlying174 (.inl rfl)
theorem tok233 : TOK Tryz.prog 233 ti233 := tok_mk (i := Tryz.t233) Tryz.type233 (by kernel_rfl) Tryz.underlying233 (.inl rfl)
theorem tok378 : TOK Tryz.prog 378 ti378 := tok_mk (i := Tryz.t378) Tryz.type378 (by kernel_rfl) ⟨_, _, _, Tryz.underlying378⟩ (.inl rfl)
def tyTr : Tr TI := (.node 73 ti73 (.node 41 ti41 (.node 9 ti9 (.node 4 ti4 (.node 3 ti3 .nil .nil) .nil) (.node 38 ti38 (.node 25 ti25 .nil .nil) .nil)) (.node 54 ti54 (.node 52 ti52 (.node 48 ti48 .nil .nil) .nil) (.node 63 ti63 .nil .nil))) (.node 143 ti143 (.node 84 ti84 (.node 78 ti78 (.node 76 ti76 .nil .nil) .nil) (.node 123 ti123 (.node 94 ti94 .nil .nil) .nil)) (.node 233 ti233 (.node 174 ti174 (.node 171 ti171 .nil .nil) .nil) (.node 378 ti378 .nil .nil))))
def tyT (t : TypeId) : Option TI := tyTr.look t
def glG : Nat → Option (List D) := lookN []
def rwT (g : FuncId) : List Nat := match lookN [] g with | some l => l | none => []
def E0 : Env := { T := tyT, G := glG, adv := fun _ => none, m := 0, n := 0, out := fun _ => none, res := [], rwP := rwT, rwR := false }
theorem eok : EOK Tryz.prog E0 := eok_of (t := tyTr) ⟨tok73, ⟨tok41, ⟨tok9, ⟨tok4, ⟨tok3, trivial, trivial⟩, trivial⟩, ⟨tok38, ⟨tok25, trivial, trivial⟩, trivial⟩⟩, ⟨tok54, ⟨tok52, ⟨tok48, trivial, trivial⟩, trivial⟩, ⟨tok63, trivial, trivial⟩⟩⟩, ⟨tok143, ⟨tok84, ⟨tok78, ⟨tok76, trivial, trivial⟩, trivial⟩, ⟨tok123, ⟨tok94, trivial, trivial⟩, trivial⟩⟩, ⟨tok233, ⟨tok174, ⟨tok171, trivial, trivial⟩, trivial⟩, ⟨tok378, trivial, trivial⟩⟩⟩⟩ rfl
theorem mixed : Tryz.prog.follows .mixedOrders = true := by kernel_rfl
def rd54 (e : List D) (o : Nat) (K : Int → Int → Int → Int → Int → Prop) : Prop := at' e o fun x0 => at' e (o + 1) fun x1 => at' e ((o + 1) + 1) fun x2 => at' e (((o + 1) + 1) + 1) fun x3 => at' e ((((o + 1) + 1) + 1) + 1) fun x4 => dK .i64 x0 fun y0 => dK .i64 x1 fun y1 => dK .i64 x2 fun y2 => dK .i64 x3 fun y3 => dK .i64 x4 fun y4 => K y0 y1 y2 y3 y4
def rd84 (e : List D) (o : Nat) (K : Int → Int → Int → Prop) : Prop := at' e o fun x0 => at' e (o + 1) fun x1 => at' e ((o + 1) + 1) fun x2 => dK .i64 x0 fun y0 => dK .i64 x1 fun y1 => dK .i64 x2 fun y2 => K y0 y1 y2
def rd94 (e : List D) (o : Nat) (K : Int → Int → Int → Prop) : Prop := at' e o fun x0 => at' e (o + 1) fun x1 => at' e ((o + 1) + 1) fun x2 => dK .i64 x0 fun y0 => dK .i64 x1 fun y1 => dK .i64 x2 fun y2 => K y0 y1 y2
def rd123 (e : List D) (o : Nat) (K : List UInt8 → Int → Int → Int → Int → Int → Int → List UInt8 → Prop) : Prop := at' e o fun x0 => at' e (o + 1) fun x1 => at' e ((o + 1) + 1) fun x2 => at' e (((o + 1) + 1) + 1) fun x3 => at' e ((((o + 1) + 1) + 1) + 1) fun x4 => at' e (((((o + 1) + 1) + 1) + 1) + 1) fun x5 => at' e ((((((o + 1) + 1) + 1) + 1) + 1) + 1) fun x6 => at' e (((((((o + 1) + 1) + 1) + 1) + 1) + 1) + 1) fun x7 => dS x0 fun y0 => dK .i64 x1 fun y1 => dK .u32 x2 fun y2 => dK .u32 x3 fun y3 => dK .u32 x4 fun y4 => dK .i64 x5 fun y5 => dK .i64 x6 fun y6 => dS x7 fun y7 => K y0 y1 y2 y3 y4 y5 y6 y7
def c29 : Ent := fun args h K => tn args <| tn h (K [.lf (.d (.bool true))] [])
noncomputable def fl29 : List (Nat × Func) := [(29, Tryz.f29), (48, Tryz.f48), (111, Tryz.f111), (112, Tryz.f112), (114, Tryz.f114), (116, Tryz.f116), (117, Tryz.f117), (127, Tryz.f127), (181, Tryz.f181), (183, Tryz.f183), (237, Tryz.f237), (288, Tryz.f288), (321, Tryz.f321)]
theorem ok29 : EntOK Tryz.prog E0 29 c29 := closed_ok (F := fl29) (sp := []) (N := 64) (d := 32) eok mixed (by intro p hp; simp only [fl29, List.mem_cons, List.not_mem_nil, or_false] at hp; rcases hp with rfl | rfl | rfl | rfl | rfl | rfl | rfl | rfl | rfl | rfl | rfl | rfl | rfl; exact ⟨Tryz.func29, Tryz.call29⟩; exact ⟨Tryz.func48, Tryz.call48⟩; exact ⟨Tryz.func111, Tryz.call111⟩; exact ⟨Tryz.func112, Tryz.call112⟩; exact ⟨Tryz.func114, Tryz.call114⟩; exact ⟨Tryz.func116, Tryz.call116⟩; exact ⟨Tryz.func117, Tryz.call117⟩; exact ⟨Tryz.func127, Tryz.call127⟩; exact ⟨Tryz.func181, Tryz.call181⟩; exact ⟨Tryz.func183, Tryz.call183⟩; exact ⟨Tryz.func237, Tryz.call237⟩; exact ⟨Tryz.func288, Tryz.call288⟩; exact ⟨Tryz.func321, Tryz.call321⟩) (by intro p hp; cases hp) (fun K => by kernel_rfl)
/-! portmanteau/portmanteaulaw16.Few -/
def B30_2 (xs1 : List (List D)) (xs2 : List (List D)) (n1 : Int) (E0 : Bool → Prop) (E1 : Prop) (R : Int → Prop) (n2 : Int) : Prop :=
 br (decide (n2 < n1))
 (gd (decide ((0 : Int) ≤ n2)) <| at' xs2 n2.toNat fun e1 => rd123 e1 0 fun s1 n3 n4 n5 n6 n7 n8 s2 => br (decide ((60 : Int) < (xs1.length : Int)))
 (E0 false)
 (br (decide ((1000 : Int) < (s1.length : Int)))
 (E0 false)
 (br (decide ((5000 : Int) < (s2.length : Int)))
 (E0 false)
 (R (IntKind.wrap .i64 (n2 + 1))))))
 (E1)
def L30_2 (xs1 : List (List D)) (xs2 : List (List D)) (n1 : Int) (E0 : Bool → Prop) (E1 : Prop) : Nat → Int → Prop
  | 0 => fun _ => False
  | k + 1 => fun n2 => B30_2 xs1 xs2 n1 E0 E1 (L30_2 xs1 xs2 n1 E0 E1 k) n2
def f30 (pxs1 : List (List D)) (K : Bool → Prop) : Prop :=
 ∃ k, L30_2 pxs1 pxs1 (pxs1.length : Int) (fun b1 => K b1) (K true) k 0
def En30 : Env := { T := tyT, G := glG, adv := lookN [(2, ([0, 5, 6, 7], [], false))], m := 0, n := 28, out := lookN [(0, []), (1, [0, 5, 6, 7])], res := [2], rwP := rwT, rwR := false }
def ta30 : List (Nat × Ent) := []
def lL30_2 : LEnt := fun vs h K => tc vs fun a1 r2 => vO a1 fun t3 => tL t3 fun x4 => qL 8 x4 fun xs1 => tc r2 fun a5 r6 => vO a5 fun t7 => tL t7 fun x8 => qL 8 x8 fun xs2 => tc r6 fun a9 r10 => vO a9 fun t11 => tL t11 fun x12 => qI .i64 x12 fun n1 => tc r10 fun a13 r14 => vO a13 fun t15 => tL t15 fun x16 => qI .i64 x16 fun n2 => tn r14 <| tn h <| (∃ k, L30_2 xs1 xs2 n1 (fun y1 => K .ret ⟨spread 28 [2] [.one (.lf (.d (D.bool y1)))], [.dead]⟩) (K (.exit 0) ⟨spread 28 [] [], []⟩) k n2)
def lp30 : Lps := ltab [(2, lL30_2)]
theorem eL30_2 (xs1 : List (List D)) (xs2 : List (List D)) (n1 : Int) (K : Ex → St → Prop) : ∀ k, L30_2 xs1 xs2 n1 (fun y1 => K .ret ⟨spread 28 [2] [.one (.lf (.d (D.bool y1)))], [.dead]⟩) (K (.exit 0) ⟨spread 28 [] [], []⟩) k = fun n2 => iterP En30 0 2 (execP En30 (tab ta30) lp30 (drawP En30 (tab ta30)) 0 (loopAt Tryz.f30 0)) k [.one (.lf (.d (D.sl 8 xs1 .any))), .one (.lf (.d (D.sl 8 xs2 .any))), .one (.lf (.d (D.int .i64 n1))), .one (.lf (.d (D.int .i64 n2)))] [] K
  | 0 => by kernel_rfl
  | k + 1 => by
    funext n2
    show B30_2 xs1 xs2 n1 (fun y1 => K .ret ⟨spread 28 [2] [.one (.lf (.d (D.bool y1)))], [.dead]⟩) (K (.exit 0) ⟨spread 28 [] [], []⟩) (L30_2 xs1 xs2 n1 (fun y1 => K .ret ⟨spread 28 [2] [.one (.lf (.d (D.bool y1)))], [.dead]⟩) (K (.exit 0) ⟨spread 28 [] [], []⟩) k) n2 = _
    rw [eL30_2 xs1 xs2 n1 K k]
    kernel_rfl
theorem kL30_2 : LoopC En30 (tab ta30) lp30 0 (loopAt Tryz.f30 0) := by
  unfold LoopC
  rw [show lid (loopAt Tryz.f30 0) = 2 from by kernel_rfl, show lp30 2 = lL30_2 from by kernel_rfl]
  intro vs h K hk
  have hk0 := hk
  clear hk
  unfold lL30_2 at hk0
  revert hk0
  revert vs; refine tc_el ?_; intro a1 r2
  revert a1; refine vO_el ?_; intro t3
  revert t3; refine tL_el ?_; intro x4
  revert x4; refine qL_el ?_; intro xs1
  revert r2; refine tc_el ?_; intro a5 r6
  revert a5; refine vO_el ?_; intro t7
  revert t7; refine tL_el ?_; intro x8
  revert x8; refine qL_el ?_; intro xs2
  revert r6; refine tc_el ?_; intro a9 r10
  revert a9; refine vO_el ?_; intro t11
  revert t11; refine tL_el ?_; intro x12
  revert x12; refine qI_el ?_; intro n1
  revert r10; refine tc_el ?_; intro a13 r14
  revert a13; refine vO_el ?_; intro t15
  revert t15; refine tL_el ?_; intro x16
  revert x16; refine qI_el ?_; intro n2
  revert r14; refine tn_el ?_
  revert h; refine tn_el ?_
  intro hk
  obtain ⟨k, hk⟩ := hk
  rw [eL30_2] at hk
  exact ⟨k, hk⟩
theorem m30 (pxs1 : List (List D)) (K : List TV → List Obj → Prop) : bodyP En30 (tab ta30) lp30 (drawP En30 (tab ta30)) Tryz.f30 [.lf (.d (D.sl 8 pxs1 .any))] [] K = f30 pxs1 (fun y1 => K [.lf (.d (D.bool y1))] []) := by kernel_rfl
def c30 : Ent := fun args h K => tc args fun a1 r2 => tL a1 fun x3 => qL 8 x3 fun pxs1 => tn r2 <| tn h <| (f30 pxs1 (fun y1 => K [.lf (.d (D.bool y1))] []))
theorem tk30 : ∀ p ∈ ta30, EntOK Tryz.prog E0 p.1 p.2 := (by intro p hp; cases hp)
theorem ok30 : EntOK Tryz.prog E0 30 c30 := by
  intro args h K hk0
  unfold c30 at hk0
  revert hk0
  revert args; refine tc_el ?_; intro a1 r2
  revert a1; refine tL_el ?_; intro x3
  revert x3; refine qL_el ?_; intro pxs1
  revert r2; refine tn_el ?_
  revert h; refine tn_el ?_
  intro hk
  exact fun w γ vs HH HG hz hp => ent_ok (E := En30) (l := ta30) (lp := lp30) (args := [.lf (.d (D.sl 8 pxs1 .any))]) (h := []) rfl rfl eok mixed tk30 Tryz.func30 Tryz.call30 rfl (by rw [m30]; exact hk) (Nat.le_of_ble_eq_true (by kernel_rfl))
    (all_at (d := Code.skip) (n := 1) (by kernel_rfl) fun i hi => match i, hi with | 0, _ => kL30_2 | n + 1, h => absurd h (by omega))
    (all_at (d := Code.skip) (n := 0) (by kernel_rfl) fun i hi => absurd hi (Nat.not_lt_zero i)) HH HG hz hp
/-! portmanteau/plan.Result -/
def C31_8 (xs9 : List (List D)) (xs10 : List (List D)) (xs11 : List (List D)) (n17 : Int) (n18 : Int) (xs12 : List (List D)) (n19 : Int) (n20 : Int) (n21 : Int) (E0 : List (List D) → Prop) : Prop :=
 gd (decide ((0 : Int) ≤ n21)) <| at' xs10 n21.toNat fun e3 => rd123 e3 0 fun s3 n22 n23 n24 n25 n26 n27 s4 => gd (decide ((xs12.length + 1) * 72 ≤ 2 ^ 47)) <| E0 (xs12 ++ [[D.str s3, D.int .i64 n22, D.int .u32 n23, D.int .u32 n24, D.int .u32 n25, D.int .i64 n26, D.int .i64 n27, D.str s4]])
def C31_7 (xs5 : List (List D)) (xs6 : List (List D)) (xs7 : List (List D)) (n12 : Int) (n13 : Int) (xs8 : List (List D)) (n14 : Int) (n15 : Int) (n16 : Int) (E0 : List (List D) → Prop) (E1 : Prop) : Prop :=
 br (decide (n14 = 2))
 (br (decide ((0 : Int) ≤ n16))
 (br (decide (n16 < (xs6.length : Int)))
 (C31_8 xs5 xs6 xs7 n12 n13 xs8 n14 n15 n16 (fun xs13 => E0 xs13))
 (E1))
 (E1))
 (br (decide (n14 = 4))
 (br (decide ((0 : Int) ≤ n16))
 (br (decide (n16 < (xs6.length : Int)))
 (C31_8 xs5 xs6 xs7 n12 n13 xs8 n14 n15 n16 (fun xs14 => E0 xs14))
 (E1))
 (E1))
 (E1))
def B31_3 (xs1 : List (List D)) (xs2 : List (List D)) (xs3 : List (List D)) (n1 : Int) (E0 : List (List D) → Prop) (R : Int → List (List D) → Prop) (n2 : Int) (xs4 : List (List D)) : Prop :=
 br (decide (n2 < n1))
 (gd (decide ((0 : Int) ≤ n2)) <| at' xs3 n2.toNat fun e1 => rd84 e1 0 fun n3 n4 n5 => br (decide (n3 = 1))
 (br (decide ((0 : Int) ≤ n4))
 (br (decide (n4 < (xs1.length : Int)))
 (gd (decide ((0 : Int) ≤ n4)) <| at' xs1 n4.toNat fun e2 => rd123 e2 0 fun s1 n6 n7 n8 n9 n10 n11 s2 => gd (decide ((xs4.length + 1) * 72 ≤ 2 ^ 47)) <| R (IntKind.wrap .i64 (n2 + 1)) (xs4 ++ [[D.str s1, D.int .i64 n6, D.int .u32 n7, D.int .u32 n8, D.int .u32 n9, D.int .i64 n10, D.int .i64 n11, D.str s2]]))
 (C31_7 xs1 xs2 xs3 n1 n2 xs4 n3 n4 n5 (fun xs15 => R (IntKind.wrap .i64 (n2 + 1)) xs15) (R (IntKind.wrap .i64 (n2 + 1)) xs4)))
 (C31_7 xs1 xs2 xs3 n1 n2 xs4 n3 n4 n5 (fun xs16 => R (IntKind.wrap .i64 (n2 + 1)) xs16) (R (IntKind.wrap .i64 (n2 + 1)) xs4)))
 (C31_7 xs1 xs2 xs3 n1 n2 xs4 n3 n4 n5 (fun xs17 => R (IntKind.wrap .i64 (n2 + 1)) xs17) (R (IntKind.wrap .i64 (n2 + 1)) xs4)))
 (E0 xs4)
def L31_3 (xs1 : List (List D)) (xs2 : List (List D)) (xs3 : List (List D)) (n1 : Int) (E0 : List (List D) → Prop) : Nat → Int → List (List D) → Prop
  | 0 => fun _ _ => False
  | k + 1 => fun n2 xs4 => B31_3 xs1 xs2 xs3 n1 E0 (L31_3 xs1 xs2 xs3 n1 E0 k) n2 xs4
def f31 (pxs1 : List (List D)) (pxs2 : List (List D)) (pxs3 : List (List D)) (K : List (List D) → Prop) : Prop :=
 ∃ k, L31_3 pxs2 pxs3 pxs1 (pxs1.length : Int) (fun xs18 => K xs18) k 0 []
def En31 : Env := { T := tyT, G := glG, adv := lookN [(3, ([1, 2, 7, 10, 11, 12], [(7, 8)], false)), (1000008, ([1, 2, 7, 9, 10, 11, 12], [], false)), (1000007, ([1, 2, 7, 9, 10, 11, 12], [], false))], m := 0, n := 71, out := lookN [(1000008, [1, 2, 7, 10, 11, 12]), (1000007, [1, 2, 7, 10, 11, 12]), (0, [7]), (1, [1, 2, 7, 10, 11, 12]), (2, [1, 2, 7, 10, 11, 12])], res := [6], rwP := rwT, rwR := false }
def ta31 : List (Nat × Ent) := []
def lC31_8 : LEnt := fun vs h K => tc vs fun a1 r2 => vO a1 fun t3 => tL t3 fun x4 => qL 8 x4 fun xs9 => tc r2 fun a5 r6 => vO a5 fun t7 => tL t7 fun x8 => qL 8 x8 fun xs10 => tc r6 fun a9 r10 => vO a9 fun t11 => tL t11 fun x12 => qW 0 0 x12 <| tc r10 fun a13 r14 => vO a13 fun t15 => tL t15 fun x16 => qPl 1 0 x16 <| tc r14 fun a17 r18 => vO a17 fun t19 => tL t19 fun x20 => qL 3 x20 fun xs11 => tc r18 fun a21 r22 => vO a21 fun t23 => tL t23 fun x24 => qI .i64 x24 fun n17 => tc r22 fun a25 r26 => vO a25 fun t27 => tL t27 fun x28 => qI .i64 x28 fun n18 => tn r26 <| tc h fun a29 r30 => oR 8 0 a29 fun xs12 => tc r30 fun a31 r32 => oC a31 fun l33 => tc l33 fun a34 r35 => qI .i64 a34 fun n19 => tc r35 fun a36 r37 => qI .i64 a36 fun n20 => tc r37 fun a38 r39 => qI .i64 a38 fun n21 => tn r39 <| tn r32 <| (C31_8 xs9 xs10 xs11 n17 n18 xs12 n19 n20 n21 (fun y1 => K .normal ⟨spread 71 [1, 2, 7, 10, 11, 12] [.one (.lf (.d (D.sl 8 xs9 .any))), .one (.lf (.d (D.sl 8 xs10 .any))), .one (.lf (.rw 0 1)), .one (.lf (.d (D.sl 3 xs11 .any))), .one (.lf (.d (D.int .i64 n17))), .one (.lf (.d (D.int .i64 n18)))], [.row 8 y1 1, .dead, .dead]⟩))
def lC31_7 : LEnt := fun vs h K => tc vs fun a1 r2 => vO a1 fun t3 => tL t3 fun x4 => qL 8 x4 fun xs5 => tc r2 fun a5 r6 => vO a5 fun t7 => tL t7 fun x8 => qL 8 x8 fun xs6 => tc r6 fun a9 r10 => vO a9 fun t11 => tL t11 fun x12 => qW 0 0 x12 <| tc r10 fun a13 r14 => vO a13 fun t15 => tL t15 fun x16 => qPl 1 0 x16 <| tc r14 fun a17 r18 => vO a17 fun t19 => tL t19 fun x20 => qL 3 x20 fun xs7 => tc r18 fun a21 r22 => vO a21 fun t23 => tL t23 fun x24 => qI .i64 x24 fun n12 => tc r22 fun a25 r26 => vO a25 fun t27 => tL t27 fun x28 => qI .i64 x28 fun n13 => tn r26 <| tc h fun a29 r30 => oR 8 0 a29 fun xs8 => tc r30 fun a31 r32 => oC a31 fun l33 => tc l33 fun a34 r35 => qI .i64 a34 fun n14 => tc r35 fun a36 r37 => qI .i64 a36 fun n15 => tc r37 fun a38 r39 => qI .i64 a38 fun n16 => tn r39 <| tn r32 <| (C31_7 xs5 xs6 xs7 n12 n13 xs8 n14 n15 n16 (fun y1 => K .normal ⟨spread 71 [1, 2, 7, 10, 11, 12] [.one (.lf (.d (D.sl 8 xs5 .any))), .one (.lf (.d (D.sl 8 xs6 .any))), .one (.lf (.rw 0 1)), .one (.lf (.d (D.sl 3 xs7 .any))), .one (.lf (.d (D.int .i64 n12))), .one (.lf (.d (D.int .i64 n13)))], [.row 8 y1 1, .dead, .dead]⟩) (K .normal ⟨spread 71 [1, 2, 7, 10, 11, 12] [.one (.lf (.d (D.sl 8 xs5 .any))), .one (.lf (.d (D.sl 8 xs6 .any))), .one (.lf (.rw 0 0)), .one (.lf (.d (D.sl 3 xs7 .any))), .one (.lf (.d (D.int .i64 n12))), .one (.lf (.d (D.int .i64 n13)))], [.row 8 xs8 0, .dead]⟩))
def lL31_3 : LEnt := fun vs h K => tc vs fun a1 r2 => vO a1 fun t3 => tL t3 fun x4 => qL 8 x4 fun xs1 => tc r2 fun a5 r6 => vO a5 fun t7 => tL t7 fun x8 => qL 8 x8 fun xs2 => tc r6 fun a9 r10 => vO a9 fun t11 => tL t11 fun x12 => qW 0 0 x12 <| tc r10 fun a13 r14 => vO a13 fun t15 => tL t15 fun x16 => qL 3 x16 fun xs3 => tc r14 fun a17 r18 => vO a17 fun t19 => tL t19 fun x20 => qI .i64 x20 fun n1 => tc r18 fun a21 r22 => vO a21 fun t23 => tL t23 fun x24 => qI .i64 x24 fun n2 => tn r22 <| tc h fun a25 r26 => oR 8 0 a25 fun xs4 => tn r26 <| (∃ k, L31_3 xs1 xs2 xs3 n1 (fun y1 => K (.exit 0) ⟨spread 71 [7] [.one (.lf (.rw 0 0))], [.row 8 y1 0]⟩) k n2 xs4)
def lp31 : Lps := ltab [(1000008, lC31_8), (1000007, lC31_7), (3, lL31_3)]
theorem eL31_3 (xs1 : List (List D)) (xs2 : List (List D)) (xs3 : List (List D)) (n1 : Int) (K : Ex → St → Prop) : ∀ k, L31_3 xs1 xs2 xs3 n1 (fun y1 => K (.exit 0) ⟨spread 71 [7] [.one (.lf (.rw 0 0))], [.row 8 y1 0]⟩) k = fun n2 xs4 => iterP En31 0 3 (execP En31 (tab ta31) lp31 (drawP En31 (tab ta31)) 0 (loopAt Tryz.f31 0)) k [.one (.lf (.d (D.sl 8 xs1 .any))), .one (.lf (.d (D.sl 8 xs2 .any))), .one (.lf (.rw 0 0)), .one (.lf (.d (D.sl 3 xs3 .any))), .one (.lf (.d (D.int .i64 n1))), .one (.lf (.d (D.int .i64 n2)))] [.row 8 xs4 0] K
  | 0 => by kernel_rfl
  | k + 1 => by
    funext n2 xs4
    show B31_3 xs1 xs2 xs3 n1 (fun y1 => K (.exit 0) ⟨spread 71 [7] [.one (.lf (.rw 0 0))], [.row 8 y1 0]⟩) (L31_3 xs1 xs2 xs3 n1 (fun y1 => K (.exit 0) ⟨spread 71 [7] [.one (.lf (.rw 0 0))], [.row 8 y1 0]⟩) k) n2 xs4 = _
    rw [eL31_3 xs1 xs2 xs3 n1 K k]
    kernel_rfl
theorem kC31_8 : CutC En31 (tab ta31) lp31 0 (cutAt En31 Tryz.f31 0) := by
  unfold CutC
  rw [show cutId (cutAt En31 Tryz.f31 0) = 1000008 from by kernel_rfl, show lp31 1000008 = lC31_8 from by kernel_rfl]
  intro vs h K hk
  have hk0 := hk
  clear hk
  unfold lC31_8 at hk0
  revert hk0
  revert vs; refine tc_el ?_; intro a1 r2
  revert a1; refine vO_el ?_; intro t3
  revert t3; refine tL_el ?_; intro x4
  revert x4; refine qL_el ?_; intro xs9
  revert r2; refine tc_el ?_; intro a5 r6
  revert a5; refine vO_el ?_; intro t7
  revert t7; refine tL_el ?_; intro x8
  revert x8; refine qL_el ?_; intro xs10
  revert r6; refine tc_el ?_; intro a9 r10
  revert a9; refine vO_el ?_; intro t11
  revert t11; refine tL_el ?_; intro x12
  revert x12; refine qW_el ?_
  revert r10; refine tc_el ?_; intro a13 r14
  revert a13; refine vO_el ?_; intro t15
  revert t15; refine tL_el ?_; intro x16
  revert x16; refine qPl_el ?_
  revert r14; refine tc_el ?_; intro a17 r18
  revert a17; refine vO_el ?_; intro t19
  revert t19; refine tL_el ?_; intro x20
  revert x20; refine qL_el ?_; intro xs11
  revert r18; refine tc_el ?_; intro a21 r22
  revert a21; refine vO_el ?_; intro t23
  revert t23; refine tL_el ?_; intro x24
  revert x24; refine qI_el ?_; intro n17
  revert r22; refine tc_el ?_; intro a25 r26
  revert a25; refine vO_el ?_; intro t27
  revert t27; refine tL_el ?_; intro x28
  revert x28; refine qI_el ?_; intro n18
  revert r26; refine tn_el ?_
  revert h; refine tc_el ?_; intro a29 r30
  revert a29; refine oR_el ?_; intro xs12
  revert r30; refine tc_el ?_; intro a31 r32
  revert a31; refine oC_el ?_; intro l33
  revert l33; refine tc_el ?_; intro a34 r35
  revert a34; refine qI_el ?_; intro n19
  revert r35; refine tc_el ?_; intro a36 r37
  revert a36; refine qI_el ?_; intro n20
  revert r37; refine tc_el ?_; intro a38 r39
  revert a38; refine qI_el ?_; intro n21
  revert r39; refine tn_el ?_
  revert r32; refine tn_el ?_
  intro hk
  rw [show execP En31 (tab ta31) lp31 (drawP En31 (tab ta31)) 0 (cutAt En31 Tryz.f31 0) ⟨spread En31.n (liveOf En31 1000008) [.one (.lf (.d (D.sl 8 xs9 .any))), .one (.lf (.d (D.sl 8 xs10 .any))), .one (.lf (.rw 0 0)), .one (.lf (.ptr 1 0)), .one (.lf (.d (D.sl 3 xs11 .any))), .one (.lf (.d (D.int .i64 n17))), .one (.lf (.d (D.int .i64 n18)))], [.row 8 xs12 0, .cells [.d (D.int .i64 n19), .d (D.int .i64 n20), .d (D.int .i64 n21)]]⟩ (KF En31 1000008 K) = C31_8 xs9 xs10 xs11 n17 n18 xs12 n19 n20 n21 (fun y1 => K .normal ⟨spread 71 [1, 2, 7, 10, 11, 12] [.one (.lf (.d (D.sl 8 xs9 .any))), .one (.lf (.d (D.sl 8 xs10 .any))), .one (.lf (.rw 0 1)), .one (.lf (.d (D.sl 3 xs11 .any))), .one (.lf (.d (D.int .i64 n17))), .one (.lf (.d (D.int .i64 n18)))], [.row 8 y1 1, .dead, .dead]⟩) from by kernel_rfl]
  exact hk
theorem kC31_7 : CutC En31 (tab ta31) lp31 0 (cutAt En31 Tryz.f31 1) := by
  unfold CutC
  rw [show cutId (cutAt En31 Tryz.f31 1) = 1000007 from by kernel_rfl, show lp31 1000007 = lC31_7 from by kernel_rfl]
  intro vs h K hk
  have hk0 := hk
  clear hk
  unfold lC31_7 at hk0
  revert hk0
  revert vs; refine tc_el ?_; intro a1 r2
  revert a1; refine vO_el ?_; intro t3
  revert t3; refine tL_el ?_; intro x4
  revert x4; refine qL_el ?_; intro xs5
  revert r2; refine tc_el ?_; intro a5 r6
  revert a5; refine vO_el ?_; intro t7
  revert t7; refine tL_el ?_; intro x8
  revert x8; refine qL_el ?_; intro xs6
  revert r6; refine tc_el ?_; intro a9 r10
  revert a9; refine vO_el ?_; intro t11
  revert t11; refine tL_el ?_; intro x12
  revert x12; refine qW_el ?_
  revert r10; refine tc_el ?_; intro a13 r14
  revert a13; refine vO_el ?_; intro t15
  revert t15; refine tL_el ?_; intro x16
  revert x16; refine qPl_el ?_
  revert r14; refine tc_el ?_; intro a17 r18
  revert a17; refine vO_el ?_; intro t19
  revert t19; refine tL_el ?_; intro x20
  revert x20; refine qL_el ?_; intro xs7
  revert r18; refine tc_el ?_; intro a21 r22
  revert a21; refine vO_el ?_; intro t23
  revert t23; refine tL_el ?_; intro x24
  revert x24; refine qI_el ?_; intro n12
  revert r22; refine tc_el ?_; intro a25 r26
  revert a25; refine vO_el ?_; intro t27
  revert t27; refine tL_el ?_; intro x28
  revert x28; refine qI_el ?_; intro n13
  revert r26; refine tn_el ?_
  revert h; refine tc_el ?_; intro a29 r30
  revert a29; refine oR_el ?_; intro xs8
  revert r30; refine tc_el ?_; intro a31 r32
  revert a31; refine oC_el ?_; intro l33
  revert l33; refine tc_el ?_; intro a34 r35
  revert a34; refine qI_el ?_; intro n14
  revert r35; refine tc_el ?_; intro a36 r37
  revert a36; refine qI_el ?_; intro n15
  revert r37; refine tc_el ?_; intro a38 r39
  revert a38; refine qI_el ?_; intro n16
  revert r39; refine tn_el ?_
  revert r32; refine tn_el ?_
  intro hk
  rw [show execP En31 (tab ta31) lp31 (drawP En31 (tab ta31)) 0 (cutAt En31 Tryz.f31 1) ⟨spread En31.n (liveOf En31 1000007) [.one (.lf (.d (D.sl 8 xs5 .any))), .one (.lf (.d (D.sl 8 xs6 .any))), .one (.lf (.rw 0 0)), .one (.lf (.ptr 1 0)), .one (.lf (.d (D.sl 3 xs7 .any))), .one (.lf (.d (D.int .i64 n12))), .one (.lf (.d (D.int .i64 n13)))], [.row 8 xs8 0, .cells [.d (D.int .i64 n14), .d (D.int .i64 n15), .d (D.int .i64 n16)]]⟩ (KF En31 1000007 K) = C31_7 xs5 xs6 xs7 n12 n13 xs8 n14 n15 n16 (fun y1 => K .normal ⟨spread 71 [1, 2, 7, 10, 11, 12] [.one (.lf (.d (D.sl 8 xs5 .any))), .one (.lf (.d (D.sl 8 xs6 .any))), .one (.lf (.rw 0 1)), .one (.lf (.d (D.sl 3 xs7 .any))), .one (.lf (.d (D.int .i64 n12))), .one (.lf (.d (D.int .i64 n13)))], [.row 8 y1 1, .dead, .dead]⟩) (K .normal ⟨spread 71 [1, 2, 7, 10, 11, 12] [.one (.lf (.d (D.sl 8 xs5 .any))), .one (.lf (.d (D.sl 8 xs6 .any))), .one (.lf (.rw 0 0)), .one (.lf (.d (D.sl 3 xs7 .any))), .one (.lf (.d (D.int .i64 n12))), .one (.lf (.d (D.int .i64 n13)))], [.row 8 xs8 0, .dead]⟩) from by kernel_rfl]
  exact hk
theorem kL31_3 : LoopC En31 (tab ta31) lp31 0 (loopAt Tryz.f31 0) := by
  unfold LoopC
  rw [show lid (loopAt Tryz.f31 0) = 3 from by kernel_rfl, show lp31 3 = lL31_3 from by kernel_rfl]
  intro vs h K hk
  have hk0 := hk
  clear hk
  unfold lL31_3 at hk0
  revert hk0
  revert vs; refine tc_el ?_; intro a1 r2
  revert a1; refine vO_el ?_; intro t3
  revert t3; refine tL_el ?_; intro x4
  revert x4; refine qL_el ?_; intro xs1
  revert r2; refine tc_el ?_; intro a5 r6
  revert a5; refine vO_el ?_; intro t7
  revert t7; refine tL_el ?_; intro x8
  revert x8; refine qL_el ?_; intro xs2
  revert r6; refine tc_el ?_; intro a9 r10
  revert a9; refine vO_el ?_; intro t11
  revert t11; refine tL_el ?_; intro x12
  revert x12; refine qW_el ?_
  revert r10; refine tc_el ?_; intro a13 r14
  revert a13; refine vO_el ?_; intro t15
  revert t15; refine tL_el ?_; intro x16
  revert x16; refine qL_el ?_; intro xs3
  revert r14; refine tc_el ?_; intro a17 r18
  revert a17; refine vO_el ?_; intro t19
  revert t19; refine tL_el ?_; intro x20
  revert x20; refine qI_el ?_; intro n1
  revert r18; refine tc_el ?_; intro a21 r22
  revert a21; refine vO_el ?_; intro t23
  revert t23; refine tL_el ?_; intro x24
  revert x24; refine qI_el ?_; intro n2
  revert r22; refine tn_el ?_
  revert h; refine tc_el ?_; intro a25 r26
  revert a25; refine oR_el ?_; intro xs4
  revert r26; refine tn_el ?_
  intro hk
  obtain ⟨k, hk⟩ := hk
  rw [eL31_3] at hk
  exact ⟨k, hk⟩
theorem m31 (pxs1 : List (List D)) (pxs2 : List (List D)) (pxs3 : List (List D)) (K : List TV → List Obj → Prop) : bodyP En31 (tab ta31) lp31 (drawP En31 (tab ta31)) Tryz.f31 [.lf (.d (D.sl 3 pxs1 .any)), .lf (.d (D.sl 8 pxs2 .any)), .lf (.d (D.sl 8 pxs3 .any))] [] K = f31 pxs1 pxs2 pxs3 (fun y1 => K [.lf (.d (D.sl 8 y1 .any))] []) := by kernel_rfl
def c31 : Ent := fun args h K => tc args fun a1 r2 => tL a1 fun x3 => qL 3 x3 fun pxs1 => tc r2 fun a4 r5 => tL a4 fun x6 => qL 8 x6 fun pxs2 => tc r5 fun a7 r8 => tL a7 fun x9 => qL 8 x9 fun pxs3 => tn r8 <| tn h <| (f31 pxs1 pxs2 pxs3 (fun y1 => K [.lf (.d (D.sl 8 y1 .any))] []))
theorem tk31 : ∀ p ∈ ta31, EntOK Tryz.prog E0 p.1 p.2 := (by intro p hp; cases hp)
theorem ok31 : EntOK Tryz.prog E0 31 c31 := by
  intro args h K hk0
  unfold c31 at hk0
  revert hk0
  revert args; refine tc_el ?_; intro a1 r2
  revert a1; refine tL_el ?_; intro x3
  revert x3; refine qL_el ?_; intro pxs1
  revert r2; refine tc_el ?_; intro a4 r5
  revert a4; refine tL_el ?_; intro x6
  revert x6; refine qL_el ?_; intro pxs2
  revert r5; refine tc_el ?_; intro a7 r8
  revert a7; refine tL_el ?_; intro x9
  revert x9; refine qL_el ?_; intro pxs3
  revert r8; refine tn_el ?_
  revert h; refine tn_el ?_
  intro hk
  exact fun w γ vs HH HG hz hp => ent_ok (E := En31) (l := ta31) (lp := lp31) (args := [.lf (.d (D.sl 3 pxs1 .any)), .lf (.d (D.sl 8 pxs2 .any)), .lf (.d (D.sl 8 pxs3 .any))]) (h := []) rfl rfl eok mixed tk31 Tryz.func31 Tryz.call31 rfl (by rw [m31]; exact hk) (Nat.le_of_ble_eq_true (by kernel_rfl))
    (all_at (d := Code.skip) (n := 1) (by kernel_rfl) fun i hi => match i, hi with | 0, _ => kL31_3 | n + 1, h => absurd h (by omega))
    (all_at (d := Code.skip) (n := 2) (by kernel_rfl) fun i hi => match i, hi with | 0, _ => kC31_8 | 1, _ => kC31_7 | n + 2, h => absurd h (by omega)) HH HG hz hp
/-! portmanteau/portmanteaulaw24.to -/
def B33_3 (xs1 : List (List D)) (n1 : Int) (E0 : List (List D) → Prop) (R : Int → List (List D) → Prop) (n2 : Int) (xs2 : List (List D)) : Prop :=
 br (decide (n2 < n1))
 (gd (decide ((0 : Int) ≤ n2)) <| at' xs1 n2.toNat fun e1 => rd84 e1 0 fun n3 n4 n5 => gd (decide ((xs2.length + 1) * 24 ≤ 2 ^ 47)) <| R (IntKind.wrap .i64 (n2 + 1)) (xs2 ++ [[D.int .i64 n3, D.int .i64 n4, D.int .i64 n5]]))
 (E0 xs2)
def L33_3 (xs1 : List (List D)) (n1 : Int) (E0 : List (List D) → Prop) : Nat → Int → List (List D) → Prop
  | 0 => fun _ _ => False
  | k + 1 => fun n2 xs2 => B33_3 xs1 n1 E0 (L33_3 xs1 n1 E0 k) n2 xs2
def f33 (pxs1 : List (List D)) (K : List (List D) → Prop) : Prop :=
 ∃ k, L33_3 pxs1 (pxs1.length : Int) (fun xs3 => K xs3) k 0 []
def En33 : Env := { T := tyT, G := glG, adv := lookN [(3, ([3, 6, 7, 8], [(3, 3)], false))], m := 0, n := 18, out := lookN [(0, [3]), (1, [3, 6, 7, 8])], res := [2], rwP := rwT, rwR := false }
def ta33 : List (Nat × Ent) := []
def lL33_3 : LEnt := fun vs h K => tc vs fun a1 r2 => vO a1 fun t3 => tL t3 fun x4 => qW 0 0 x4 <| tc r2 fun a5 r6 => vO a5 fun t7 => tL t7 fun x8 => qL 3 x8 fun xs1 => tc r6 fun a9 r10 => vO a9 fun t11 => tL t11 fun x12 => qI .i64 x12 fun n1 => tc r10 fun a13 r14 => vO a13 fun t15 => tL t15 fun x16 => qI .i64 x16 fun n2 => tn r14 <| tc h fun a17 r18 => oR 3 0 a17 fun xs2 => tn r18 <| (∃ k, L33_3 xs1 n1 (fun y1 => K (.exit 0) ⟨spread 18 [3] [.one (.lf (.rw 0 0))], [.row 3 y1 0]⟩) k n2 xs2)
def lp33 : Lps := ltab [(3, lL33_3)]
theorem eL33_3 (xs1 : List (List D)) (n1 : Int) (K : Ex → St → Prop) : ∀ k, L33_3 xs1 n1 (fun y1 => K (.exit 0) ⟨spread 18 [3] [.one (.lf (.rw 0 0))], [.row 3 y1 0]⟩) k = fun n2 xs2 => iterP En33 0 3 (execP En33 (tab ta33) lp33 (drawP En33 (tab ta33)) 0 (loopAt Tryz.f33 0)) k [.one (.lf (.rw 0 0)), .one (.lf (.d (D.sl 3 xs1 .any))), .one (.lf (.d (D.int .i64 n1))), .one (.lf (.d (D.int .i64 n2)))] [.row 3 xs2 0] K
  | 0 => by kernel_rfl
  | k + 1 => by
    funext n2 xs2
    show B33_3 xs1 n1 (fun y1 => K (.exit 0) ⟨spread 18 [3] [.one (.lf (.rw 0 0))], [.row 3 y1 0]⟩) (L33_3 xs1 n1 (fun y1 => K (.exit 0) ⟨spread 18 [3] [.one (.lf (.rw 0 0))], [.row 3 y1 0]⟩) k) n2 xs2 = _
    rw [eL33_3 xs1 n1 K k]
    kernel_rfl
theorem kL33_3 : LoopC En33 (tab ta33) lp33 0 (loopAt Tryz.f33 0) := by
  unfold LoopC
  rw [show lid (loopAt Tryz.f33 0) = 3 from by kernel_rfl, show lp33 3 = lL33_3 from by kernel_rfl]
  intro vs h K hk
  have hk0 := hk
  clear hk
  unfold lL33_3 at hk0
  revert hk0
  revert vs; refine tc_el ?_; intro a1 r2
  revert a1; refine vO_el ?_; intro t3
  revert t3; refine tL_el ?_; intro x4
  revert x4; refine qW_el ?_
  revert r2; refine tc_el ?_; intro a5 r6
  revert a5; refine vO_el ?_; intro t7
  revert t7; refine tL_el ?_; intro x8
  revert x8; refine qL_el ?_; intro xs1
  revert r6; refine tc_el ?_; intro a9 r10
  revert a9; refine vO_el ?_; intro t11
  revert t11; refine tL_el ?_; intro x12
  revert x12; refine qI_el ?_; intro n1
  revert r10; refine tc_el ?_; intro a13 r14
  revert a13; refine vO_el ?_; intro t15
  revert t15; refine tL_el ?_; intro x16
  revert x16; refine qI_el ?_; intro n2
  revert r14; refine tn_el ?_
  revert h; refine tc_el ?_; intro a17 r18
  revert a17; refine oR_el ?_; intro xs2
  revert r18; refine tn_el ?_
  intro hk
  obtain ⟨k, hk⟩ := hk
  rw [eL33_3] at hk
  exact ⟨k, hk⟩
theorem m33 (pxs1 : List (List D)) (K : List TV → List Obj → Prop) : bodyP En33 (tab ta33) lp33 (drawP En33 (tab ta33)) Tryz.f33 [.lf (.d (D.sl 3 pxs1 .any))] [] K = f33 pxs1 (fun y1 => K [.lf (.d (D.sl 3 y1 .any))] []) := by kernel_rfl
def c33 : Ent := fun args h K => tc args fun a1 r2 => tL a1 fun x3 => qL 3 x3 fun pxs1 => tn r2 <| tn h <| (f33 pxs1 (fun y1 => K [.lf (.d (D.sl 3 y1 .any))] []))
theorem tk33 : ∀ p ∈ ta33, EntOK Tryz.prog E0 p.1 p.2 := (by intro p hp; cases hp)
theorem ok33 : EntOK Tryz.prog E0 33 c33 := by
  intro args h K hk0
  unfold c33 at hk0
  revert hk0
  revert args; refine tc_el ?_; intro a1 r2
  revert a1; refine tL_el ?_; intro x3
  revert x3; refine qL_el ?_; intro pxs1
  revert r2; refine tn_el ?_
  revert h; refine tn_el ?_
  intro hk
  exact fun w γ vs HH HG hz hp => ent_ok (E := En33) (l := ta33) (lp := lp33) (args := [.lf (.d (D.sl 3 pxs1 .any))]) (h := []) rfl rfl eok mixed tk33 Tryz.func33 Tryz.call33 rfl (by rw [m33]; exact hk) (Nat.le_of_ble_eq_true (by kernel_rfl))
    (all_at (d := Code.skip) (n := 1) (by kernel_rfl) fun i hi => match i, hi with | 0, _ => kL33_3 | n + 1, h => absurd h (by omega))
    (all_at (d := Code.skip) (n := 0) (by kernel_rfl) fun i hi => absurd hi (Nat.not_lt_zero i)) HH HG hz hp
/-! portmanteau/portmanteauref24.Result -/
def C32_8 (xs9 : List (List D)) (xs10 : List (List D)) (xs11 : List (List D)) (n17 : Int) (n18 : Int) (xs12 : List (List D)) (n19 : Int) (n20 : Int) (n21 : Int) (E0 : List (List D) → Prop) : Prop :=
 gd (decide ((0 : Int) ≤ n21)) <| at' xs10 n21.toNat fun e3 => rd123 e3 0 fun s3 n22 n23 n24 n25 n26 n27 s4 => gd (decide ((xs12.length + 1) * 72 ≤ 2 ^ 47)) <| E0 (xs12 ++ [[D.str s3, D.int .i64 n22, D.int .u32 n23, D.int .u32 n24, D.int .u32 n25, D.int .i64 n26, D.int .i64 n27, D.str s4]])
def C32_7 (xs5 : List (List D)) (xs6 : List (List D)) (xs7 : List (List D)) (n12 : Int) (n13 : Int) (xs8 : List (List D)) (n14 : Int) (n15 : Int) (n16 : Int) (E0 : List (List D) → Prop) (E1 : Prop) : Prop :=
 br (decide (n14 = 2))
 (br (decide ((0 : Int) ≤ n16))
 (br (decide (n16 < (xs6.length : Int)))
 (C32_8 xs5 xs6 xs7 n12 n13 xs8 n14 n15 n16 (fun xs13 => E0 xs13))
 (E1))
 (E1))
 (br (decide (n14 = 4))
 (br (decide ((0 : Int) ≤ n16))
 (br (decide (n16 < (xs6.length : Int)))
 (C32_8 xs5 xs6 xs7 n12 n13 xs8 n14 n15 n16 (fun xs14 => E0 xs14))
 (E1))
 (E1))
 (E1))
def B32_3 (xs1 : List (List D)) (xs2 : List (List D)) (xs3 : List (List D)) (n1 : Int) (E0 : List (List D) → Prop) (R : Int → List (List D) → Prop) (n2 : Int) (xs4 : List (List D)) : Prop :=
 br (decide (n2 < n1))
 (gd (decide ((0 : Int) ≤ n2)) <| at' xs3 n2.toNat fun e1 => rd94 e1 0 fun n3 n4 n5 => br (decide (n3 = 1))
 (br (decide ((0 : Int) ≤ n4))
 (br (decide (n4 < (xs1.length : Int)))
 (gd (decide ((0 : Int) ≤ n4)) <| at' xs1 n4.toNat fun e2 => rd123 e2 0 fun s1 n6 n7 n8 n9 n10 n11 s2 => gd (decide ((xs4.length + 1) * 72 ≤ 2 ^ 47)) <| C32_7 xs1 xs2 xs3 n1 n2 (xs4 ++ [[D.str s1, D.int .i64 n6, D.int .u32 n7, D.int .u32 n8, D.int .u32 n9, D.int .i64 n10, D.int .i64 n11, D.str s2]]) n3 n4 n5 (fun xs15 => R (IntKind.wrap .i64 (n2 + 1)) xs15) (R (IntKind.wrap .i64 (n2 + 1)) (xs4 ++ [[D.str s1, D.int .i64 n6, D.int .u32 n7, D.int .u32 n8, D.int .u32 n9, D.int .i64 n10, D.int .i64 n11, D.str s2]])))
 (C32_7 xs1 xs2 xs3 n1 n2 xs4 n3 n4 n5 (fun xs16 => R (IntKind.wrap .i64 (n2 + 1)) xs16) (R (IntKind.wrap .i64 (n2 + 1)) xs4)))
 (C32_7 xs1 xs2 xs3 n1 n2 xs4 n3 n4 n5 (fun xs17 => R (IntKind.wrap .i64 (n2 + 1)) xs17) (R (IntKind.wrap .i64 (n2 + 1)) xs4)))
 (C32_7 xs1 xs2 xs3 n1 n2 xs4 n3 n4 n5 (fun xs18 => R (IntKind.wrap .i64 (n2 + 1)) xs18) (R (IntKind.wrap .i64 (n2 + 1)) xs4)))
 (E0 xs4)
def L32_3 (xs1 : List (List D)) (xs2 : List (List D)) (xs3 : List (List D)) (n1 : Int) (E0 : List (List D) → Prop) : Nat → Int → List (List D) → Prop
  | 0 => fun _ _ => False
  | k + 1 => fun n2 xs4 => B32_3 xs1 xs2 xs3 n1 E0 (L32_3 xs1 xs2 xs3 n1 E0 k) n2 xs4
def f32 (pxs1 : List (List D)) (pxs2 : List (List D)) (pxs3 : List (List D)) (K : List (List D) → Prop) : Prop :=
 ∃ k, L32_3 pxs2 pxs3 pxs1 (pxs1.length : Int) (fun xs19 => K xs19) k 0 []
def En32 : Env := { T := tyT, G := glG, adv := lookN [(3, ([1, 2, 7, 10, 11, 12], [(7, 8)], false)), (1000008, ([1, 2, 7, 9, 10, 11, 12], [], false)), (1000007, ([1, 2, 7, 9, 10, 11, 12], [], false))], m := 0, n := 69, out := lookN [(1000008, [1, 2, 7, 10, 11, 12]), (1000007, [1, 2, 7, 10, 11, 12]), (0, [7]), (1, [1, 2, 7, 10, 11, 12])], res := [6], rwP := rwT, rwR := false }
def ta32 : List (Nat × Ent) := []
def lC32_8 : LEnt := fun vs h K => tc vs fun a1 r2 => vO a1 fun t3 => tL t3 fun x4 => qL 8 x4 fun xs9 => tc r2 fun a5 r6 => vO a5 fun t7 => tL t7 fun x8 => qL 8 x8 fun xs10 => tc r6 fun a9 r10 => vO a9 fun t11 => tL t11 fun x12 => qW 0 0 x12 <| tc r10 fun a13 r14 => vO a13 fun t15 => tL t15 fun x16 => qPl 1 0 x16 <| tc r14 fun a17 r18 => vO a17 fun t19 => tL t19 fun x20 => qL 3 x20 fun xs11 => tc r18 fun a21 r22 => vO a21 fun t23 => tL t23 fun x24 => qI .i64 x24 fun n17 => tc r22 fun a25 r26 => vO a25 fun t27 => tL t27 fun x28 => qI .i64 x28 fun n18 => tn r26 <| tc h fun a29 r30 => oR 8 0 a29 fun xs12 => tc r30 fun a31 r32 => oC a31 fun l33 => tc l33 fun a34 r35 => qI .i64 a34 fun n19 => tc r35 fun a36 r37 => qI .i64 a36 fun n20 => tc r37 fun a38 r39 => qI .i64 a38 fun n21 => tn r39 <| tn r32 <| (C32_8 xs9 xs10 xs11 n17 n18 xs12 n19 n20 n21 (fun y1 => K .normal ⟨spread 69 [1, 2, 7, 10, 11, 12] [.one (.lf (.d (D.sl 8 xs9 .any))), .one (.lf (.d (D.sl 8 xs10 .any))), .one (.lf (.rw 0 1)), .one (.lf (.d (D.sl 3 xs11 .any))), .one (.lf (.d (D.int .i64 n17))), .one (.lf (.d (D.int .i64 n18)))], [.row 8 y1 1, .dead, .dead]⟩))
def lC32_7 : LEnt := fun vs h K => tc vs fun a1 r2 => vO a1 fun t3 => tL t3 fun x4 => qL 8 x4 fun xs5 => tc r2 fun a5 r6 => vO a5 fun t7 => tL t7 fun x8 => qL 8 x8 fun xs6 => tc r6 fun a9 r10 => vO a9 fun t11 => tL t11 fun x12 => qW 0 0 x12 <| tc r10 fun a13 r14 => vO a13 fun t15 => tL t15 fun x16 => qPl 1 0 x16 <| tc r14 fun a17 r18 => vO a17 fun t19 => tL t19 fun x20 => qL 3 x20 fun xs7 => tc r18 fun a21 r22 => vO a21 fun t23 => tL t23 fun x24 => qI .i64 x24 fun n12 => tc r22 fun a25 r26 => vO a25 fun t27 => tL t27 fun x28 => qI .i64 x28 fun n13 => tn r26 <| tc h fun a29 r30 => oR 8 0 a29 fun xs8 => tc r30 fun a31 r32 => oC a31 fun l33 => tc l33 fun a34 r35 => qI .i64 a34 fun n14 => tc r35 fun a36 r37 => qI .i64 a36 fun n15 => tc r37 fun a38 r39 => qI .i64 a38 fun n16 => tn r39 <| tn r32 <| (C32_7 xs5 xs6 xs7 n12 n13 xs8 n14 n15 n16 (fun y1 => K .normal ⟨spread 69 [1, 2, 7, 10, 11, 12] [.one (.lf (.d (D.sl 8 xs5 .any))), .one (.lf (.d (D.sl 8 xs6 .any))), .one (.lf (.rw 0 1)), .one (.lf (.d (D.sl 3 xs7 .any))), .one (.lf (.d (D.int .i64 n12))), .one (.lf (.d (D.int .i64 n13)))], [.row 8 y1 1, .dead, .dead]⟩) (K .normal ⟨spread 69 [1, 2, 7, 10, 11, 12] [.one (.lf (.d (D.sl 8 xs5 .any))), .one (.lf (.d (D.sl 8 xs6 .any))), .one (.lf (.rw 0 0)), .one (.lf (.d (D.sl 3 xs7 .any))), .one (.lf (.d (D.int .i64 n12))), .one (.lf (.d (D.int .i64 n13)))], [.row 8 xs8 0, .dead]⟩))
def lL32_3 : LEnt := fun vs h K => tc vs fun a1 r2 => vO a1 fun t3 => tL t3 fun x4 => qL 8 x4 fun xs1 => tc r2 fun a5 r6 => vO a5 fun t7 => tL t7 fun x8 => qL 8 x8 fun xs2 => tc r6 fun a9 r10 => vO a9 fun t11 => tL t11 fun x12 => qW 0 0 x12 <| tc r10 fun a13 r14 => vO a13 fun t15 => tL t15 fun x16 => qL 3 x16 fun xs3 => tc r14 fun a17 r18 => vO a17 fun t19 => tL t19 fun x20 => qI .i64 x20 fun n1 => tc r18 fun a21 r22 => vO a21 fun t23 => tL t23 fun x24 => qI .i64 x24 fun n2 => tn r22 <| tc h fun a25 r26 => oR 8 0 a25 fun xs4 => tn r26 <| (∃ k, L32_3 xs1 xs2 xs3 n1 (fun y1 => K (.exit 0) ⟨spread 69 [7] [.one (.lf (.rw 0 0))], [.row 8 y1 0]⟩) k n2 xs4)
def lp32 : Lps := ltab [(1000008, lC32_8), (1000007, lC32_7), (3, lL32_3)]
theorem eL32_3 (xs1 : List (List D)) (xs2 : List (List D)) (xs3 : List (List D)) (n1 : Int) (K : Ex → St → Prop) : ∀ k, L32_3 xs1 xs2 xs3 n1 (fun y1 => K (.exit 0) ⟨spread 69 [7] [.one (.lf (.rw 0 0))], [.row 8 y1 0]⟩) k = fun n2 xs4 => iterP En32 0 3 (execP En32 (tab ta32) lp32 (drawP En32 (tab ta32)) 0 (loopAt Tryz.f32 0)) k [.one (.lf (.d (D.sl 8 xs1 .any))), .one (.lf (.d (D.sl 8 xs2 .any))), .one (.lf (.rw 0 0)), .one (.lf (.d (D.sl 3 xs3 .any))), .one (.lf (.d (D.int .i64 n1))), .one (.lf (.d (D.int .i64 n2)))] [.row 8 xs4 0] K
  | 0 => by kernel_rfl
  | k + 1 => by
    funext n2 xs4
    show B32_3 xs1 xs2 xs3 n1 (fun y1 => K (.exit 0) ⟨spread 69 [7] [.one (.lf (.rw 0 0))], [.row 8 y1 0]⟩) (L32_3 xs1 xs2 xs3 n1 (fun y1 => K (.exit 0) ⟨spread 69 [7] [.one (.lf (.rw 0 0))], [.row 8 y1 0]⟩) k) n2 xs4 = _
    rw [eL32_3 xs1 xs2 xs3 n1 K k]
    kernel_rfl
theorem kC32_8 : CutC En32 (tab ta32) lp32 0 (cutAt En32 Tryz.f32 0) := by
  unfold CutC
  rw [show cutId (cutAt En32 Tryz.f32 0) = 1000008 from by kernel_rfl, show lp32 1000008 = lC32_8 from by kernel_rfl]
  intro vs h K hk
  have hk0 := hk
  clear hk
  unfold lC32_8 at hk0
  revert hk0
  revert vs; refine tc_el ?_; intro a1 r2
  revert a1; refine vO_el ?_; intro t3
  revert t3; refine tL_el ?_; intro x4
  revert x4; refine qL_el ?_; intro xs9
  revert r2; refine tc_el ?_; intro a5 r6
  revert a5; refine vO_el ?_; intro t7
  revert t7; refine tL_el ?_; intro x8
  revert x8; refine qL_el ?_; intro xs10
  revert r6; refine tc_el ?_; intro a9 r10
  revert a9; refine vO_el ?_; intro t11
  revert t11; refine tL_el ?_; intro x12
  revert x12; refine qW_el ?_
  revert r10; refine tc_el ?_; intro a13 r14
  revert a13; refine vO_el ?_; intro t15
  revert t15; refine tL_el ?_; intro x16
  revert x16; refine qPl_el ?_
  revert r14; refine tc_el ?_; intro a17 r18
  revert a17; refine vO_el ?_; intro t19
  revert t19; refine tL_el ?_; intro x20
  revert x20; refine qL_el ?_; intro xs11
  revert r18; refine tc_el ?_; intro a21 r22
  revert a21; refine vO_el ?_; intro t23
  revert t23; refine tL_el ?_; intro x24
  revert x24; refine qI_el ?_; intro n17
  revert r22; refine tc_el ?_; intro a25 r26
  revert a25; refine vO_el ?_; intro t27
  revert t27; refine tL_el ?_; intro x28
  revert x28; refine qI_el ?_; intro n18
  revert r26; refine tn_el ?_
  revert h; refine tc_el ?_; intro a29 r30
  revert a29; refine oR_el ?_; intro xs12
  revert r30; refine tc_el ?_; intro a31 r32
  revert a31; refine oC_el ?_; intro l33
  revert l33; refine tc_el ?_; intro a34 r35
  revert a34; refine qI_el ?_; intro n19
  revert r35; refine tc_el ?_; intro a36 r37
  revert a36; refine qI_el ?_; intro n20
  revert r37; refine tc_el ?_; intro a38 r39
  revert a38; refine qI_el ?_; intro n21
  revert r39; refine tn_el ?_
  revert r32; refine tn_el ?_
  intro hk
  rw [show execP En32 (tab ta32) lp32 (drawP En32 (tab ta32)) 0 (cutAt En32 Tryz.f32 0) ⟨spread En32.n (liveOf En32 1000008) [.one (.lf (.d (D.sl 8 xs9 .any))), .one (.lf (.d (D.sl 8 xs10 .any))), .one (.lf (.rw 0 0)), .one (.lf (.ptr 1 0)), .one (.lf (.d (D.sl 3 xs11 .any))), .one (.lf (.d (D.int .i64 n17))), .one (.lf (.d (D.int .i64 n18)))], [.row 8 xs12 0, .cells [.d (D.int .i64 n19), .d (D.int .i64 n20), .d (D.int .i64 n21)]]⟩ (KF En32 1000008 K) = C32_8 xs9 xs10 xs11 n17 n18 xs12 n19 n20 n21 (fun y1 => K .normal ⟨spread 69 [1, 2, 7, 10, 11, 12] [.one (.lf (.d (D.sl 8 xs9 .any))), .one (.lf (.d (D.sl 8 xs10 .any))), .one (.lf (.rw 0 1)), .one (.lf (.d (D.sl 3 xs11 .any))), .one (.lf (.d (D.int .i64 n17))), .one (.lf (.d (D.int .i64 n18)))], [.row 8 y1 1, .dead, .dead]⟩) from by kernel_rfl]
  exact hk
theorem kC32_7 : CutC En32 (tab ta32) lp32 0 (cutAt En32 Tryz.f32 1) := by
  unfold CutC
  rw [show cutId (cutAt En32 Tryz.f32 1) = 1000007 from by kernel_rfl, show lp32 1000007 = lC32_7 from by kernel_rfl]
  intro vs h K hk
  have hk0 := hk
  clear hk
  unfold lC32_7 at hk0
  revert hk0
  revert vs; refine tc_el ?_; intro a1 r2
  revert a1; refine vO_el ?_; intro t3
  revert t3; refine tL_el ?_; intro x4
  revert x4; refine qL_el ?_; intro xs5
  revert r2; refine tc_el ?_; intro a5 r6
  revert a5; refine vO_el ?_; intro t7
  revert t7; refine tL_el ?_; intro x8
  revert x8; refine qL_el ?_; intro xs6
  revert r6; refine tc_el ?_; intro a9 r10
  revert a9; refine vO_el ?_; intro t11
  revert t11; refine tL_el ?_; intro x12
  revert x12; refine qW_el ?_
  revert r10; refine tc_el ?_; intro a13 r14
  revert a13; refine vO_el ?_; intro t15
  revert t15; refine tL_el ?_; intro x16
  revert x16; refine qPl_el ?_
  revert r14; refine tc_el ?_; intro a17 r18
  revert a17; refine vO_el ?_; intro t19
  revert t19; refine tL_el ?_; intro x20
  revert x20; refine qL_el ?_; intro xs7
  revert r18; refine tc_el ?_; intro a21 r22
  revert a21; refine vO_el ?_; intro t23
  revert t23; refine tL_el ?_; intro x24
  revert x24; refine qI_el ?_; intro n12
  revert r22; refine tc_el ?_; intro a25 r26
  revert a25; refine vO_el ?_; intro t27
  revert t27; refine tL_el ?_; intro x28
  revert x28; refine qI_el ?_; intro n13
  revert r26; refine tn_el ?_
  revert h; refine tc_el ?_; intro a29 r30
  revert a29; refine oR_el ?_; intro xs8
  revert r30; refine tc_el ?_; intro a31 r32
  revert a31; refine oC_el ?_; intro l33
  revert l33; refine tc_el ?_; intro a34 r35
  revert a34; refine qI_el ?_; intro n14
  revert r35; refine tc_el ?_; intro a36 r37
  revert a36; refine qI_el ?_; intro n15
  revert r37; refine tc_el ?_; intro a38 r39
  revert a38; refine qI_el ?_; intro n16
  revert r39; refine tn_el ?_
  revert r32; refine tn_el ?_
  intro hk
  rw [show execP En32 (tab ta32) lp32 (drawP En32 (tab ta32)) 0 (cutAt En32 Tryz.f32 1) ⟨spread En32.n (liveOf En32 1000007) [.one (.lf (.d (D.sl 8 xs5 .any))), .one (.lf (.d (D.sl 8 xs6 .any))), .one (.lf (.rw 0 0)), .one (.lf (.ptr 1 0)), .one (.lf (.d (D.sl 3 xs7 .any))), .one (.lf (.d (D.int .i64 n12))), .one (.lf (.d (D.int .i64 n13)))], [.row 8 xs8 0, .cells [.d (D.int .i64 n14), .d (D.int .i64 n15), .d (D.int .i64 n16)]]⟩ (KF En32 1000007 K) = C32_7 xs5 xs6 xs7 n12 n13 xs8 n14 n15 n16 (fun y1 => K .normal ⟨spread 69 [1, 2, 7, 10, 11, 12] [.one (.lf (.d (D.sl 8 xs5 .any))), .one (.lf (.d (D.sl 8 xs6 .any))), .one (.lf (.rw 0 1)), .one (.lf (.d (D.sl 3 xs7 .any))), .one (.lf (.d (D.int .i64 n12))), .one (.lf (.d (D.int .i64 n13)))], [.row 8 y1 1, .dead, .dead]⟩) (K .normal ⟨spread 69 [1, 2, 7, 10, 11, 12] [.one (.lf (.d (D.sl 8 xs5 .any))), .one (.lf (.d (D.sl 8 xs6 .any))), .one (.lf (.rw 0 0)), .one (.lf (.d (D.sl 3 xs7 .any))), .one (.lf (.d (D.int .i64 n12))), .one (.lf (.d (D.int .i64 n13)))], [.row 8 xs8 0, .dead]⟩) from by kernel_rfl]
  exact hk
theorem kL32_3 : LoopC En32 (tab ta32) lp32 0 (loopAt Tryz.f32 0) := by
  unfold LoopC
  rw [show lid (loopAt Tryz.f32 0) = 3 from by kernel_rfl, show lp32 3 = lL32_3 from by kernel_rfl]
  intro vs h K hk
  have hk0 := hk
  clear hk
  unfold lL32_3 at hk0
  revert hk0
  revert vs; refine tc_el ?_; intro a1 r2
  revert a1; refine vO_el ?_; intro t3
  revert t3; refine tL_el ?_; intro x4
  revert x4; refine qL_el ?_; intro xs1
  revert r2; refine tc_el ?_; intro a5 r6
  revert a5; refine vO_el ?_; intro t7
  revert t7; refine tL_el ?_; intro x8
  revert x8; refine qL_el ?_; intro xs2
  revert r6; refine tc_el ?_; intro a9 r10
  revert a9; refine vO_el ?_; intro t11
  revert t11; refine tL_el ?_; intro x12
  revert x12; refine qW_el ?_
  revert r10; refine tc_el ?_; intro a13 r14
  revert a13; refine vO_el ?_; intro t15
  revert t15; refine tL_el ?_; intro x16
  revert x16; refine qL_el ?_; intro xs3
  revert r14; refine tc_el ?_; intro a17 r18
  revert a17; refine vO_el ?_; intro t19
  revert t19; refine tL_el ?_; intro x20
  revert x20; refine qI_el ?_; intro n1
  revert r18; refine tc_el ?_; intro a21 r22
  revert a21; refine vO_el ?_; intro t23
  revert t23; refine tL_el ?_; intro x24
  revert x24; refine qI_el ?_; intro n2
  revert r22; refine tn_el ?_
  revert h; refine tc_el ?_; intro a25 r26
  revert a25; refine oR_el ?_; intro xs4
  revert r26; refine tn_el ?_
  intro hk
  obtain ⟨k, hk⟩ := hk
  rw [eL32_3] at hk
  exact ⟨k, hk⟩
theorem m32 (pxs1 : List (List D)) (pxs2 : List (List D)) (pxs3 : List (List D)) (K : List TV → List Obj → Prop) : bodyP En32 (tab ta32) lp32 (drawP En32 (tab ta32)) Tryz.f32 [.lf (.d (D.sl 3 pxs1 .any)), .lf (.d (D.sl 8 pxs2 .any)), .lf (.d (D.sl 8 pxs3 .any))] [] K = f32 pxs1 pxs2 pxs3 (fun y1 => K [.lf (.d (D.sl 8 y1 .any))] []) := by kernel_rfl
def c32 : Ent := fun args h K => tc args fun a1 r2 => tL a1 fun x3 => qL 3 x3 fun pxs1 => tc r2 fun a4 r5 => tL a4 fun x6 => qL 8 x6 fun pxs2 => tc r5 fun a7 r8 => tL a7 fun x9 => qL 8 x9 fun pxs3 => tn r8 <| tn h <| (f32 pxs1 pxs2 pxs3 (fun y1 => K [.lf (.d (D.sl 8 y1 .any))] []))
theorem tk32 : ∀ p ∈ ta32, EntOK Tryz.prog E0 p.1 p.2 := (by intro p hp; cases hp)
theorem ok32 : EntOK Tryz.prog E0 32 c32 := by
  intro args h K hk0
  unfold c32 at hk0
  revert hk0
  revert args; refine tc_el ?_; intro a1 r2
  revert a1; refine tL_el ?_; intro x3
  revert x3; refine qL_el ?_; intro pxs1
  revert r2; refine tc_el ?_; intro a4 r5
  revert a4; refine tL_el ?_; intro x6
  revert x6; refine qL_el ?_; intro pxs2
  revert r5; refine tc_el ?_; intro a7 r8
  revert a7; refine tL_el ?_; intro x9
  revert x9; refine qL_el ?_; intro pxs3
  revert r8; refine tn_el ?_
  revert h; refine tn_el ?_
  intro hk
  exact fun w γ vs HH HG hz hp => ent_ok (E := En32) (l := ta32) (lp := lp32) (args := [.lf (.d (D.sl 3 pxs1 .any)), .lf (.d (D.sl 8 pxs2 .any)), .lf (.d (D.sl 8 pxs3 .any))]) (h := []) rfl rfl eok mixed tk32 Tryz.func32 Tryz.call32 rfl (by rw [m32]; exact hk) (Nat.le_of_ble_eq_true (by kernel_rfl))
    (all_at (d := Code.skip) (n := 1) (by kernel_rfl) fun i hi => match i, hi with | 0, _ => kL32_3 | n + 1, h => absurd h (by omega))
    (all_at (d := Code.skip) (n := 2) (by kernel_rfl) fun i hi => match i, hi with | 0, _ => kC32_8 | 1, _ => kC32_7 | n + 2, h => absurd h (by omega)) HH HG hz hp
/-! portmanteau/portmanteauref15.Same -/
def B28_4 (xs1 : List (List D)) (xs2 : List (List D)) (n1 : Int) (E0 : Bool → Prop) (E1 : Prop) (R : Int → Prop) (n2 : Int) : Prop :=
 br (decide (n2 < n1))
 (gd (decide ((0 : Int) ≤ n2)) <| at' xs1 n2.toNat fun e1 => rd123 e1 0 fun s1 n3 n4 n5 n6 n7 n8 s2 => gd (decide ((0 : Int) ≤ n2)) <| at' xs2 n2.toNat fun e2 => rd123 e2 0 fun s3 n9 n10 n11 n12 n13 n14 s4 => eqL [D.str s1, D.int .i64 n3, D.int .u32 n4, D.int .u32 n5, D.int .u32 n6, D.int .i64 n7, D.int .i64 n8, D.str s2] [D.str s3, D.int .i64 n9, D.int .u32 n10, D.int .u32 n11, D.int .u32 n12, D.int .i64 n13, D.int .i64 n14, D.str s4] fun b1 => br (!b1)
 (E0 false)
 (R (IntKind.wrap .i64 (n2 + 1))))
 (E1)
def L28_4 (xs1 : List (List D)) (xs2 : List (List D)) (n1 : Int) (E0 : Bool → Prop) (E1 : Prop) : Nat → Int → Prop
  | 0 => fun _ => False
  | k + 1 => fun n2 => B28_4 xs1 xs2 n1 E0 E1 (L28_4 xs1 xs2 n1 E0 E1 k) n2
def f28 (pxs1 : List (List D)) (pxs2 : List (List D)) (K : Bool → Prop) : Prop :=
 br (!decide ((pxs1.length : Int) = (pxs2.length : Int)))
 (K false)
 (∃ k, L28_4 pxs1 pxs2 (pxs1.length : Int) (fun b2 => K b2) (K true) k 0)
def En28 : Env := { T := tyT, G := glG, adv := lookN [(4, ([0, 1, 12, 13], [], false))], m := 0, n := 26, out := lookN [(0, []), (1, [0, 1, 12, 13])], res := [4], rwP := rwT, rwR := false }
def ta28 : List (Nat × Ent) := []
def lL28_4 : LEnt := fun vs h K => tc vs fun a1 r2 => vO a1 fun t3 => tL t3 fun x4 => qL 8 x4 fun xs1 => tc r2 fun a5 r6 => vO a5 fun t7 => tL t7 fun x8 => qL 8 x8 fun xs2 => tc r6 fun a9 r10 => vO a9 fun t11 => tL t11 fun x12 => qI .i64 x12 fun n1 => tc r10 fun a13 r14 => vO a13 fun t15 => tL t15 fun x16 => qI .i64 x16 fun n2 => tn r14 <| tn h <| (∃ k, L28_4 xs1 xs2 n1 (fun y1 => K .ret ⟨spread 26 [4] [.one (.lf (.d (D.bool y1)))], []⟩) (K (.exit 0) ⟨spread 26 [] [], []⟩) k n2)
def lp28 : Lps := ltab [(4, lL28_4)]
theorem eL28_4 (xs1 : List (List D)) (xs2 : List (List D)) (n1 : Int) (K : Ex → St → Prop) : ∀ k, L28_4 xs1 xs2 n1 (fun y1 => K .ret ⟨spread 26 [4] [.one (.lf (.d (D.bool y1)))], []⟩) (K (.exit 0) ⟨spread 26 [] [], []⟩) k = fun n2 => iterP En28 0 4 (execP En28 (tab ta28) lp28 (drawP En28 (tab ta28)) 0 (loopAt Tryz.f28 0)) k [.one (.lf (.d (D.sl 8 xs1 .any))), .one (.lf (.d (D.sl 8 xs2 .any))), .one (.lf (.d (D.int .i64 n1))), .one (.lf (.d (D.int .i64 n2)))] [] K
  | 0 => by kernel_rfl
  | k + 1 => by
    funext n2
    show B28_4 xs1 xs2 n1 (fun y1 => K .ret ⟨spread 26 [4] [.one (.lf (.d (D.bool y1)))], []⟩) (K (.exit 0) ⟨spread 26 [] [], []⟩) (L28_4 xs1 xs2 n1 (fun y1 => K .ret ⟨spread 26 [4] [.one (.lf (.d (D.bool y1)))], []⟩) (K (.exit 0) ⟨spread 26 [] [], []⟩) k) n2 = _
    rw [eL28_4 xs1 xs2 n1 K k]
    kernel_rfl
theorem kL28_4 : LoopC En28 (tab ta28) lp28 0 (loopAt Tryz.f28 0) := by
  unfold LoopC
  rw [show lid (loopAt Tryz.f28 0) = 4 from by kernel_rfl, show lp28 4 = lL28_4 from by kernel_rfl]
  intro vs h K hk
  have hk0 := hk
  clear hk
  unfold lL28_4 at hk0
  revert hk0
  revert vs; refine tc_el ?_; intro a1 r2
  revert a1; refine vO_el ?_; intro t3
  revert t3; refine tL_el ?_; intro x4
  revert x4; refine qL_el ?_; intro xs1
  revert r2; refine tc_el ?_; intro a5 r6
  revert a5; refine vO_el ?_; intro t7
  revert t7; refine tL_el ?_; intro x8
  revert x8; refine qL_el ?_; intro xs2
  revert r6; refine tc_el ?_; intro a9 r10
  revert a9; refine vO_el ?_; intro t11
  revert t11; refine tL_el ?_; intro x12
  revert x12; refine qI_el ?_; intro n1
  revert r10; refine tc_el ?_; intro a13 r14
  revert a13; refine vO_el ?_; intro t15
  revert t15; refine tL_el ?_; intro x16
  revert x16; refine qI_el ?_; intro n2
  revert r14; refine tn_el ?_
  revert h; refine tn_el ?_
  intro hk
  obtain ⟨k, hk⟩ := hk
  rw [eL28_4] at hk
  exact ⟨k, hk⟩
theorem m28 (pxs1 : List (List D)) (pxs2 : List (List D)) (K : List TV → List Obj → Prop) : bodyP En28 (tab ta28) lp28 (drawP En28 (tab ta28)) Tryz.f28 [.lf (.d (D.sl 8 pxs1 .any)), .lf (.d (D.sl 8 pxs2 .any))] [] K = f28 pxs1 pxs2 (fun y1 => K [.lf (.d (D.bool y1))] []) := by kernel_rfl
def c28 : Ent := fun args h K => tc args fun a1 r2 => tL a1 fun x3 => qL 8 x3 fun pxs1 => tc r2 fun a4 r5 => tL a4 fun x6 => qL 8 x6 fun pxs2 => tn r5 <| tn h <| (f28 pxs1 pxs2 (fun y1 => K [.lf (.d (D.bool y1))] []))
theorem tk28 : ∀ p ∈ ta28, EntOK Tryz.prog E0 p.1 p.2 := (by intro p hp; cases hp)
theorem ok28 : EntOK Tryz.prog E0 28 c28 := by
  intro args h K hk0
  unfold c28 at hk0
  revert hk0
  revert args; refine tc_el ?_; intro a1 r2
  revert a1; refine tL_el ?_; intro x3
  revert x3; refine qL_el ?_; intro pxs1
  revert r2; refine tc_el ?_; intro a4 r5
  revert a4; refine tL_el ?_; intro x6
  revert x6; refine qL_el ?_; intro pxs2
  revert r5; refine tn_el ?_
  revert h; refine tn_el ?_
  intro hk
  exact fun w γ vs HH HG hz hp => ent_ok (E := En28) (l := ta28) (lp := lp28) (args := [.lf (.d (D.sl 8 pxs1 .any)), .lf (.d (D.sl 8 pxs2 .any))]) (h := []) rfl rfl eok mixed tk28 Tryz.func28 Tryz.call28 rfl (by rw [m28]; exact hk) (Nat.le_of_ble_eq_true (by kernel_rfl))
    (all_at (d := Code.skip) (n := 1) (by kernel_rfl) fun i hi => match i, hi with | 0, _ => kL28_4 | n + 1, h => absurd h (by omega))
    (all_at (d := Code.skip) (n := 0) (by kernel_rfl) fun i hi => absurd hi (Nat.not_lt_zero i)) HH HG hz hp
/-! portmanteau/plan.Count -/
def B34_3 (xs1 : List (List D)) (n1 : Int) (e1 : List D) (E0 : List D → Prop) (R : Int → List D → Prop) (n2 : Int) (e2 : List D) : Prop :=
 br (decide (n2 < n1))
 (gd (decide ((0 : Int) ≤ n2)) <| at' xs1 n2.toNat fun e3 => rd84 e3 0 fun n3 n4 n5 => br (decide ((1 : Int) ≤ n3))
 (br (decide (n3 ≤ 4))
 (gd (decide ((0 : Int) ≤ n3 ∧ n3 < 5)) <| rI .i64 e2 (0 + (n3.toNat * 1)) fun n6 => gd (decide ((0 : Int) ≤ n3 ∧ n3 < 5)) <| gd (decide ((0 + (n3.toNat * 1)) + 1 ≤ e2.length)) <| R (IntKind.wrap .i64 (n2 + 1)) (setN e2 (0 + (n3.toNat * 1)) [D.int .i64 (IntKind.wrap .i64 (n6 + 1))]))
 (R (IntKind.wrap .i64 (n2 + 1)) e2))
 (R (IntKind.wrap .i64 (n2 + 1)) e2))
 (E0 e2)
def L34_3 (xs1 : List (List D)) (n1 : Int) (e1 : List D) (E0 : List D → Prop) : Nat → Int → List D → Prop
  | 0 => fun _ _ => False
  | k + 1 => fun n2 e2 => B34_3 xs1 n1 e1 E0 (L34_3 xs1 n1 e1 E0 k) n2 e2
def f34 (pxs1 : List (List D)) (K : Int → Int → Int → Int → Int → Prop) : Prop :=
 ∃ k, L34_3 pxs1 (pxs1.length : Int) [D.int .i64 0, D.int .i64 0, D.int .i64 0, D.int .i64 0, D.int .i64 0] (fun e4 => rd54 e4 0 fun n7 n8 n9 n10 n11 => K n7 n8 n9 n10 n11) k 0 [D.int .i64 0, D.int .i64 0, D.int .i64 0, D.int .i64 0, D.int .i64 0]
def En34 : Env := { T := tyT, G := glG, adv := lookN [(3, ([2, 3, 6, 7, 8], [], false))], m := 0, n := 28, out := lookN [(0, [2, 3]), (1, [2, 3, 6, 7, 8])], res := [2], rwP := rwT, rwR := false }
def ta34 : List (Nat × Ent) := []
def lL34_3 : LEnt := fun vs h K => tc vs fun a1 r2 => vO a1 fun t3 => tL t3 fun x4 => qPl 0 0 x4 <| tc r2 fun a5 r6 => vO a5 fun t7 => tL t7 fun x8 => qPl 1 0 x8 <| tc r6 fun a9 r10 => vO a9 fun t11 => tL t11 fun x12 => qL 3 x12 fun xs1 => tc r10 fun a13 r14 => vO a13 fun t15 => tL t15 fun x16 => qI .i64 x16 fun n1 => tc r14 fun a17 r18 => vO a17 fun t19 => tL t19 fun x20 => qI .i64 x20 fun n2 => tn r18 <| tc h fun a21 r22 => oA a21 fun e1 => tc r22 fun a23 r24 => oA a23 fun e2 => tn r24 <| (∃ k, L34_3 xs1 n1 e1 (fun y1 => K (.exit 0) ⟨spread 28 [2, 3] [.one (.lf (.ptr 0 0)), .one (.lf (.ptr 1 0))], [.arr e1, .arr y1]⟩) k n2 e2)
def lp34 : Lps := ltab [(3, lL34_3)]
theorem eL34_3 (xs1 : List (List D)) (n1 : Int) (e1 : List D) (K : Ex → St → Prop) : ∀ k, L34_3 xs1 n1 e1 (fun y1 => K (.exit 0) ⟨spread 28 [2, 3] [.one (.lf (.ptr 0 0)), .one (.lf (.ptr 1 0))], [.arr e1, .arr y1]⟩) k = fun n2 e2 => iterP En34 0 3 (execP En34 (tab ta34) lp34 (drawP En34 (tab ta34)) 0 (loopAt Tryz.f34 0)) k [.one (.lf (.ptr 0 0)), .one (.lf (.ptr 1 0)), .one (.lf (.d (D.sl 3 xs1 .any))), .one (.lf (.d (D.int .i64 n1))), .one (.lf (.d (D.int .i64 n2)))] [.arr e1, .arr e2] K
  | 0 => by kernel_rfl
  | k + 1 => by
    funext n2 e2
    show B34_3 xs1 n1 e1 (fun y1 => K (.exit 0) ⟨spread 28 [2, 3] [.one (.lf (.ptr 0 0)), .one (.lf (.ptr 1 0))], [.arr e1, .arr y1]⟩) (L34_3 xs1 n1 e1 (fun y1 => K (.exit 0) ⟨spread 28 [2, 3] [.one (.lf (.ptr 0 0)), .one (.lf (.ptr 1 0))], [.arr e1, .arr y1]⟩) k) n2 e2 = _
    rw [eL34_3 xs1 n1 e1 K k]
    kernel_rfl
theorem kL34_3 : LoopC En34 (tab ta34) lp34 0 (loopAt Tryz.f34 0) := by
  unfold LoopC
  rw [show lid (loopAt Tryz.f34 0) = 3 from by kernel_rfl, show lp34 3 = lL34_3 from by kernel_rfl]
  intro vs h K hk
  have hk0 := hk
  clear hk
  unfold lL34_3 at hk0
  revert hk0
  revert vs; refine tc_el ?_; intro a1 r2
  revert a1; refine vO_el ?_; intro t3
  revert t3; refine tL_el ?_; intro x4
  revert x4; refine qPl_el ?_
  revert r2; refine tc_el ?_; intro a5 r6
  revert a5; refine vO_el ?_; intro t7
  revert t7; refine tL_el ?_; intro x8
  revert x8; refine qPl_el ?_
  revert r6; refine tc_el ?_; intro a9 r10
  revert a9; refine vO_el ?_; intro t11
  revert t11; refine tL_el ?_; intro x12
  revert x12; refine qL_el ?_; intro xs1
  revert r10; refine tc_el ?_; intro a13 r14
  revert a13; refine vO_el ?_; intro t15
  revert t15; refine tL_el ?_; intro x16
  revert x16; refine qI_el ?_; intro n1
  revert r14; refine tc_el ?_; intro a17 r18
  revert a17; refine vO_el ?_; intro t19
  revert t19; refine tL_el ?_; intro x20
  revert x20; refine qI_el ?_; intro n2
  revert r18; refine tn_el ?_
  revert h; refine tc_el ?_; intro a21 r22
  revert a21; refine oA_el ?_; intro e1
  revert r22; refine tc_el ?_; intro a23 r24
  revert a23; refine oA_el ?_; intro e2
  revert r24; refine tn_el ?_
  intro hk
  obtain ⟨k, hk⟩ := hk
  rw [eL34_3] at hk
  exact ⟨k, hk⟩
theorem m34 (pxs1 : List (List D)) (K : List TV → List Obj → Prop) : bodyP En34 (tab ta34) lp34 (drawP En34 (tab ta34)) Tryz.f34 [.lf (.d (D.sl 3 pxs1 .any))] [] K = f34 pxs1 (fun y1 y2 y3 y4 y5 => K [.agg [.d (D.int .i64 y1), .d (D.int .i64 y2), .d (D.int .i64 y3), .d (D.int .i64 y4), .d (D.int .i64 y5)]] []) := by kernel_rfl
def c34 : Ent := fun args h K => tc args fun a1 r2 => tL a1 fun x3 => qL 3 x3 fun pxs1 => tn r2 <| tn h <| (f34 pxs1 (fun y1 y2 y3 y4 y5 => K [.agg [.d (D.int .i64 y1), .d (D.int .i64 y2), .d (D.int .i64 y3), .d (D.int .i64 y4), .d (D.int .i64 y5)]] []))
theorem tk34 : ∀ p ∈ ta34, EntOK Tryz.prog E0 p.1 p.2 := (by intro p hp; cases hp)
theorem ok34 : EntOK Tryz.prog E0 34 c34 := by
  intro args h K hk0
  unfold c34 at hk0
  revert hk0
  revert args; refine tc_el ?_; intro a1 r2
  revert a1; refine tL_el ?_; intro x3
  revert x3; refine qL_el ?_; intro pxs1
  revert r2; refine tn_el ?_
  revert h; refine tn_el ?_
  intro hk
  exact fun w γ vs HH HG hz hp => ent_ok (E := En34) (l := ta34) (lp := lp34) (args := [.lf (.d (D.sl 3 pxs1 .any))]) (h := []) rfl rfl eok mixed tk34 Tryz.func34 Tryz.call34 rfl (by rw [m34]; exact hk) (Nat.le_of_ble_eq_true (by kernel_rfl))
    (all_at (d := Code.skip) (n := 1) (by kernel_rfl) fun i hi => match i, hi with | 0, _ => kL34_3 | n + 1, h => absurd h (by omega))
    (all_at (d := Code.skip) (n := 0) (by kernel_rfl) fun i hi => absurd hi (Nat.not_lt_zero i)) HH HG hz hp
/-! portmanteau/portmanteauref24.Count -/
def B35_6 (xs2 : List (List D)) (n7 : Int) (n8 : Int) (e4 : List D) (n9 : Int) (n10 : Int) (n11 : Int) (E0 : List D → Prop) (R : Int → List D → Prop) (n6 : Int) (e5 : List D) : Prop :=
 br (decide (n6 ≤ 4))
 (br (decide (n9 = n6))
 (gd (decide ((0 : Int) ≤ n6 ∧ n6 < 5)) <| rI .i64 e5 (0 + (n6.toNat * 1)) fun n12 => gd (decide ((0 : Int) ≤ n6 ∧ n6 < 5)) <| gd (decide ((0 + (n6.toNat * 1)) + 1 ≤ e5.length)) <| R (IntKind.wrap .i64 (n6 + 1)) (setN e5 (0 + (n6.toNat * 1)) [D.int .i64 (IntKind.wrap .i64 (n12 + 1))]))
 (R (IntKind.wrap .i64 (n6 + 1)) e5))
 (E0 e5)
def L35_6 (xs2 : List (List D)) (n7 : Int) (n8 : Int) (e4 : List D) (n9 : Int) (n10 : Int) (n11 : Int) (E0 : List D → Prop) : Nat → Int → List D → Prop
  | 0 => fun _ _ => False
  | k + 1 => fun n6 e5 => B35_6 xs2 n7 n8 e4 n9 n10 n11 E0 (L35_6 xs2 n7 n8 e4 n9 n10 n11 E0 k) n6 e5
def B35_3 (xs1 : List (List D)) (n1 : Int) (e1 : List D) (E0 : List D → Prop) (R : Int → List D → Prop) (n2 : Int) (e2 : List D) : Prop :=
 br (decide (n2 < n1))
 (gd (decide ((0 : Int) ≤ n2)) <| at' xs1 n2.toNat fun e3 => rd94 e3 0 fun n3 n4 n5 => ∃ k, L35_6 xs1 n1 n2 e1 n3 n4 n5 (fun e6 => R (IntKind.wrap .i64 (n2 + 1)) e6) k 1 e2)
 (E0 e2)
def L35_3 (xs1 : List (List D)) (n1 : Int) (e1 : List D) (E0 : List D → Prop) : Nat → Int → List D → Prop
  | 0 => fun _ _ => False
  | k + 1 => fun n2 e2 => B35_3 xs1 n1 e1 E0 (L35_3 xs1 n1 e1 E0 k) n2 e2
def f35 (pxs1 : List (List D)) (K : Int → Int → Int → Int → Int → Prop) : Prop :=
 ∃ k, L35_3 pxs1 (pxs1.length : Int) [D.int .i64 0, D.int .i64 0, D.int .i64 0, D.int .i64 0, D.int .i64 0] (fun e7 => rd54 e7 0 fun n13 n14 n15 n16 n17 => K n13 n14 n15 n16 n17) k 0 [D.int .i64 0, D.int .i64 0, D.int .i64 0, D.int .i64 0, D.int .i64 0]
def En35 : Env := { T := tyT, G := glG, adv := lookN [(3, ([2, 3, 7, 8, 9], [], false)), (6, ([2, 3, 5, 6, 7, 8, 9], [], false))], m := 0, n := 28, out := lookN [(0, [2, 3]), (1, [2, 3, 7, 8, 9]), (2, [2, 3, 7, 8, 9]), (3, [2, 3, 5, 6, 7, 8, 9])], res := [2], rwP := rwT, rwR := false }
def ta35 : List (Nat × Ent) := []
def lL35_6 : LEnt := fun vs h K => tc vs fun a1 r2 => vO a1 fun t3 => tL t3 fun x4 => qPl 0 0 x4 <| tc r2 fun a5 r6 => vO a5 fun t7 => tL t7 fun x8 => qPl 1 0 x8 <| tc r6 fun a9 r10 => vO a9 fun t11 => tL t11 fun x12 => qPl 2 0 x12 <| tc r10 fun a13 r14 => vO a13 fun t15 => tL t15 fun x16 => qI .i64 x16 fun n6 => tc r14 fun a17 r18 => vO a17 fun t19 => tL t19 fun x20 => qL 3 x20 fun xs2 => tc r18 fun a21 r22 => vO a21 fun t23 => tL t23 fun x24 => qI .i64 x24 fun n7 => tc r22 fun a25 r26 => vO a25 fun t27 => tL t27 fun x28 => qI .i64 x28 fun n8 => tn r26 <| tc h fun a29 r30 => oA a29 fun e4 => tc r30 fun a31 r32 => oA a31 fun e5 => tc r32 fun a33 r34 => oC a33 fun l35 => tc l35 fun a36 r37 => qI .i64 a36 fun n9 => tc r37 fun a38 r39 => qI .i64 a38 fun n10 => tc r39 fun a40 r41 => qI .i64 a40 fun n11 => tn r41 <| tn r34 <| (∃ k, L35_6 xs2 n7 n8 e4 n9 n10 n11 (fun y1 => K (.exit 2) ⟨spread 28 [2, 3, 7, 8, 9] [.one (.lf (.ptr 0 0)), .one (.lf (.ptr 1 0)), .one (.lf (.d (D.sl 3 xs2 .any))), .one (.lf (.d (D.int .i64 n7))), .one (.lf (.d (D.int .i64 n8)))], [.arr e4, .arr y1, .dead]⟩) k n6 e5)
def lL35_3 : LEnt := fun vs h K => tc vs fun a1 r2 => vO a1 fun t3 => tL t3 fun x4 => qPl 0 0 x4 <| tc r2 fun a5 r6 => vO a5 fun t7 => tL t7 fun x8 => qPl 1 0 x8 <| tc r6 fun a9 r10 => vO a9 fun t11 => tL t11 fun x12 => qL 3 x12 fun xs1 => tc r10 fun a13 r14 => vO a13 fun t15 => tL t15 fun x16 => qI .i64 x16 fun n1 => tc r14 fun a17 r18 => vO a17 fun t19 => tL t19 fun x20 => qI .i64 x20 fun n2 => tn r18 <| tc h fun a21 r22 => oA a21 fun e1 => tc r22 fun a23 r24 => oA a23 fun e2 => tn r24 <| (∃ k, L35_3 xs1 n1 e1 (fun y1 => K (.exit 0) ⟨spread 28 [2, 3] [.one (.lf (.ptr 0 0)), .one (.lf (.ptr 1 0))], [.arr e1, .arr y1]⟩) k n2 e2)
def lp35 : Lps := ltab [(6, lL35_6), (3, lL35_3)]
theorem eL35_6 (xs2 : List (List D)) (n7 : Int) (n8 : Int) (e4 : List D) (n9 : Int) (n10 : Int) (n11 : Int) (K : Ex → St → Prop) : ∀ k, L35_6 xs2 n7 n8 e4 n9 n10 n11 (fun y1 => K (.exit 2) ⟨spread 28 [2, 3, 7, 8, 9] [.one (.lf (.ptr 0 0)), .one (.lf (.ptr 1 0)), .one (.lf (.d (D.sl 3 xs2 .any))), .one (.lf (.d (D.int .i64 n7))), .one (.lf (.d (D.int .i64 n8)))], [.arr e4, .arr y1, .dead]⟩) k = fun n6 e5 => iterP En35 0 6 (execP En35 (tab ta35) lp35 (drawP En35 (tab ta35)) 0 (loopAt Tryz.f35 1)) k [.one (.lf (.ptr 0 0)), .one (.lf (.ptr 1 0)), .one (.lf (.ptr 2 0)), .one (.lf (.d (D.int .i64 n6))), .one (.lf (.d (D.sl 3 xs2 .any))), .one (.lf (.d (D.int .i64 n7))), .one (.lf (.d (D.int .i64 n8)))] [.arr e4, .arr e5, .cells [.d (D.int .i64 n9), .d (D.int .i64 n10), .d (D.int .i64 n11)]] K
  | 0 => by kernel_rfl
  | k + 1 => by
    funext n6 e5
    show B35_6 xs2 n7 n8 e4 n9 n10 n11 (fun y1 => K (.exit 2) ⟨spread 28 [2, 3, 7, 8, 9] [.one (.lf (.ptr 0 0)), .one (.lf (.ptr 1 0)), .one (.lf (.d (D.sl 3 xs2 .any))), .one (.lf (.d (D.int .i64 n7))), .one (.lf (.d (D.int .i64 n8)))], [.arr e4, .arr y1, .dead]⟩) (L35_6 xs2 n7 n8 e4 n9 n10 n11 (fun y1 => K (.exit 2) ⟨spread 28 [2, 3, 7, 8, 9] [.one (.lf (.ptr 0 0)), .one (.lf (.ptr 1 0)), .one (.lf (.d (D.sl 3 xs2 .any))), .one (.lf (.d (D.int .i64 n7))), .one (.lf (.d (D.int .i64 n8)))], [.arr e4, .arr y1, .dead]⟩) k) n6 e5 = _
    rw [eL35_6 xs2 n7 n8 e4 n9 n10 n11 K k]
    kernel_rfl
theorem eL35_3 (xs1 : List (List D)) (n1 : Int) (e1 : List D) (K : Ex → St → Prop) : ∀ k, L35_3 xs1 n1 e1 (fun y1 => K (.exit 0) ⟨spread 28 [2, 3] [.one (.lf (.ptr 0 0)), .one (.lf (.ptr 1 0))], [.arr e1, .arr y1]⟩) k = fun n2 e2 => iterP En35 0 3 (execP En35 (tab ta35) lp35 (drawP En35 (tab ta35)) 0 (loopAt Tryz.f35 0)) k [.one (.lf (.ptr 0 0)), .one (.lf (.ptr 1 0)), .one (.lf (.d (D.sl 3 xs1 .any))), .one (.lf (.d (D.int .i64 n1))), .one (.lf (.d (D.int .i64 n2)))] [.arr e1, .arr e2] K
  | 0 => by kernel_rfl
  | k + 1 => by
    funext n2 e2
    show B35_3 xs1 n1 e1 (fun y1 => K (.exit 0) ⟨spread 28 [2, 3] [.one (.lf (.ptr 0 0)), .one (.lf (.ptr 1 0))], [.arr e1, .arr y1]⟩) (L35_3 xs1 n1 e1 (fun y1 => K (.exit 0) ⟨spread 28 [2, 3] [.one (.lf (.ptr 0 0)), .one (.lf (.ptr 1 0))], [.arr e1, .arr y1]⟩) k) n2 e2 = _
    rw [eL35_3 xs1 n1 e1 K k]
    kernel_rfl
theorem kL35_6 : LoopC En35 (tab ta35) lp35 0 (loopAt Tryz.f35 1) := by
  unfold LoopC
  rw [show lid (loopAt Tryz.f35 1) = 6 from by kernel_rfl, show lp35 6 = lL35_6 from by kernel_rfl]
  intro vs h K hk
  have hk0 := hk
  clear hk
  unfold lL35_6 at hk0
  revert hk0
  revert vs; refine tc_el ?_; intro a1 r2
  revert a1; refine vO_el ?_; intro t3
  revert t3; refine tL_el ?_; intro x4
  revert x4; refine qPl_el ?_
  revert r2; refine tc_el ?_; intro a5 r6
  revert a5; refine vO_el ?_; intro t7
  revert t7; refine tL_el ?_; intro x8
  revert x8; refine qPl_el ?_
  revert r6; refine tc_el ?_; intro a9 r10
  revert a9; refine vO_el ?_; intro t11
  revert t11; refine tL_el ?_; intro x12
  revert x12; refine qPl_el ?_
  revert r10; refine tc_el ?_; intro a13 r14
  revert a13; refine vO_el ?_; intro t15
  revert t15; refine tL_el ?_; intro x16
  revert x16; refine qI_el ?_; intro n6
  revert r14; refine tc_el ?_; intro a17 r18
  revert a17; refine vO_el ?_; intro t19
  revert t19; refine tL_el ?_; intro x20
  revert x20; refine qL_el ?_; intro xs2
  revert r18; refine tc_el ?_; intro a21 r22
  revert a21; refine vO_el ?_; intro t23
  revert t23; refine tL_el ?_; intro x24
  revert x24; refine qI_el ?_; intro n7
  revert r22; refine tc_el ?_; intro a25 r26
  revert a25; refine vO_el ?_; intro t27
  revert t27; refine tL_el ?_; intro x28
  revert x28; refine qI_el ?_; intro n8
  revert r26; refine tn_el ?_
  revert h; refine tc_el ?_; intro a29 r30
  revert a29; refine oA_el ?_; intro e4
  revert r30; refine tc_el ?_; intro a31 r32
  revert a31; refine oA_el ?_; intro e5
  revert r32; refine tc_el ?_; intro a33 r34
  revert a33; refine oC_el ?_; intro l35
  revert l35; refine tc_el ?_; intro a36 r37
  revert a36; refine qI_el ?_; intro n9
  revert r37; refine tc_el ?_; intro a38 r39
  revert a38; refine qI_el ?_; intro n10
  revert r39; refine tc_el ?_; intro a40 r41
  revert a40; refine qI_el ?_; intro n11
  revert r41; refine tn_el ?_
  revert r34; refine tn_el ?_
  intro hk
  obtain ⟨k, hk⟩ := hk
  rw [eL35_6] at hk
  exact ⟨k, hk⟩
theorem kL35_3 : LoopC En35 (tab ta35) lp35 0 (loopAt Tryz.f35 0) := by
  unfold LoopC
  rw [show lid (loopAt Tryz.f35 0) = 3 from by kernel_rfl, show lp35 3 = lL35_3 from by kernel_rfl]
  intro vs h K hk
  have hk0 := hk
  clear hk
  unfold lL35_3 at hk0
  revert hk0
  revert vs; refine tc_el ?_; intro a1 r2
  revert a1; refine vO_el ?_; intro t3
  revert t3; refine tL_el ?_; intro x4
  revert x4; refine qPl_el ?_
  revert r2; refine tc_el ?_; intro a5 r6
  revert a5; refine vO_el ?_; intro t7
  revert t7; refine tL_el ?_; intro x8
  revert x8; refine qPl_el ?_
  revert r6; refine tc_el ?_; intro a9 r10
  revert a9; refine vO_el ?_; intro t11
  revert t11; refine tL_el ?_; intro x12
  revert x12; refine qL_el ?_; intro xs1
  revert r10; refine tc_el ?_; intro a13 r14
  revert a13; refine vO_el ?_; intro t15
  revert t15; refine tL_el ?_; intro x16
  revert x16; refine qI_el ?_; intro n1
  revert r14; refine tc_el ?_; intro a17 r18
  revert a17; refine vO_el ?_; intro t19
  revert t19; refine tL_el ?_; intro x20
  revert x20; refine qI_el ?_; intro n2
  revert r18; refine tn_el ?_
  revert h; refine tc_el ?_; intro a21 r22
  revert a21; refine oA_el ?_; intro e1
  revert r22; refine tc_el ?_; intro a23 r24
  revert a23; refine oA_el ?_; intro e2
  revert r24; refine tn_el ?_
  intro hk
  obtain ⟨k, hk⟩ := hk
  rw [eL35_3] at hk
  exact ⟨k, hk⟩
theorem m35 (pxs1 : List (List D)) (K : List TV → List Obj → Prop) : bodyP En35 (tab ta35) lp35 (drawP En35 (tab ta35)) Tryz.f35 [.lf (.d (D.sl 3 pxs1 .any))] [] K = f35 pxs1 (fun y1 y2 y3 y4 y5 => K [.agg [.d (D.int .i64 y1), .d (D.int .i64 y2), .d (D.int .i64 y3), .d (D.int .i64 y4), .d (D.int .i64 y5)]] []) := by kernel_rfl
def c35 : Ent := fun args h K => tc args fun a1 r2 => tL a1 fun x3 => qL 3 x3 fun pxs1 => tn r2 <| tn h <| (f35 pxs1 (fun y1 y2 y3 y4 y5 => K [.agg [.d (D.int .i64 y1), .d (D.int .i64 y2), .d (D.int .i64 y3), .d (D.int .i64 y4), .d (D.int .i64 y5)]] []))
theorem tk35 : ∀ p ∈ ta35, EntOK Tryz.prog E0 p.1 p.2 := (by intro p hp; cases hp)
theorem ok35 : EntOK Tryz.prog E0 35 c35 := by
  intro args h K hk0
  unfold c35 at hk0
  revert hk0
  revert args; refine tc_el ?_; intro a1 r2
  revert a1; refine tL_el ?_; intro x3
  revert x3; refine qL_el ?_; intro pxs1
  revert r2; refine tn_el ?_
  revert h; refine tn_el ?_
  intro hk
  exact fun w γ vs HH HG hz hp => ent_ok (E := En35) (l := ta35) (lp := lp35) (args := [.lf (.d (D.sl 3 pxs1 .any))]) (h := []) rfl rfl eok mixed tk35 Tryz.func35 Tryz.call35 rfl (by rw [m35]; exact hk) (Nat.le_of_ble_eq_true (by kernel_rfl))
    (all_at (d := Code.skip) (n := 2) (by kernel_rfl) fun i hi => match i, hi with | 0, _ => kL35_3 | 1, _ => kL35_6 | n + 2, h => absurd h (by omega))
    (all_at (d := Code.skip) (n := 0) (by kernel_rfl) fun i hi => absurd hi (Nat.not_lt_zero i)) HH HG hz hp
/-! portmanteau/portmanteaulaw24.PlanResults -/
def f4 (pxs1 : List (List D)) (pxs2 : List (List D)) (pxs3 : List (List D)) (K : Bool → Prop) : Prop :=
 br (decide ((100 : Int) < (pxs1.length : Int)))
 (K true)
 (f30 pxs2 (fun b1 => br (!b1)
 (K true)
 (f30 pxs3 (fun b2 => br (!b2)
 (K true)
 (f31 pxs1 pxs2 pxs3 (fun xs1 => f33 pxs1 (fun xs2 => f32 xs2 pxs2 pxs3 (fun xs3 => f28 xs1 xs3 (fun b3 => br b3
 (f34 pxs1 (fun n1 n2 n3 n4 n5 => f33 pxs1 (fun xs4 => f35 xs4 (fun n6 n7 n8 n9 n10 => eqL [D.int .i64 n1, D.int .i64 n2, D.int .i64 n3, D.int .i64 n4, D.int .i64 n5] [D.int .i64 n6, D.int .i64 n7, D.int .i64 n8, D.int .i64 n9, D.int .i64 n10] fun b4 => K b4))))
 (K false))))))))))
def En4 : Env := { T := tyT, G := glG, adv := lookN [], m := 0, n := 40, out := lookN [], res := [6], rwP := rwT, rwR := false }
def ta4 : List (Nat × Ent) := [(29, c29), (30, c30), (31, c31), (33, c33), (32, c32), (28, c28), (34, c34), (35, c35)]
def lp4 : Lps := ltab []
theorem m4 (pxs1 : List (List D)) (pxs2 : List (List D)) (pxs3 : List (List D)) (K : List TV → List Obj → Prop) : bodyP En4 (tab ta4) lp4 (drawP En4 (tab ta4)) Tryz.f4 [.lf (.d (D.sl 3 pxs1 .any)), .lf (.d (D.sl 8 pxs2 .any)), .lf (.d (D.sl 8 pxs3 .any))] [] K = f4 pxs1 pxs2 pxs3 (fun y1 => K [.lf (.d (D.bool y1))] []) := by kernel_rfl
def c4 : Ent := fun args h K => tc args fun a1 r2 => tL a1 fun x3 => qL 3 x3 fun pxs1 => tc r2 fun a4 r5 => tL a4 fun x6 => qL 8 x6 fun pxs2 => tc r5 fun a7 r8 => tL a7 fun x9 => qL 8 x9 fun pxs3 => tn r8 <| tn h <| (f4 pxs1 pxs2 pxs3 (fun y1 => K [.lf (.d (D.bool y1))] []))
theorem tk4 : ∀ p ∈ ta4, EntOK Tryz.prog E0 p.1 p.2 := (by intro p hp; simp only [ta4, List.mem_cons, List.not_mem_nil, or_false] at hp; rcases hp with rfl | rfl | rfl | rfl | rfl | rfl | rfl | rfl; exact ok29; exact ok30; exact ok31; exact ok33; exact ok32; exact ok28; exact ok34; exact ok35)
theorem ok4 : EntOK Tryz.prog E0 4 c4 := by
  intro args h K hk0
  unfold c4 at hk0
  revert hk0
  revert args; refine tc_el ?_; intro a1 r2
  revert a1; refine tL_el ?_; intro x3
  revert x3; refine qL_el ?_; intro pxs1
  revert r2; refine tc_el ?_; intro a4 r5
  revert a4; refine tL_el ?_; intro x6
  revert x6; refine qL_el ?_; intro pxs2
  revert r5; refine tc_el ?_; intro a7 r8
  revert a7; refine tL_el ?_; intro x9
  revert x9; refine qL_el ?_; intro pxs3
  revert r8; refine tn_el ?_
  revert h; refine tn_el ?_
  intro hk
  exact fun w γ vs HH HG hz hp => ent_ok (E := En4) (l := ta4) (lp := lp4) (args := [.lf (.d (D.sl 3 pxs1 .any)), .lf (.d (D.sl 8 pxs2 .any)), .lf (.d (D.sl 8 pxs3 .any))]) (h := []) rfl rfl eok mixed tk4 Tryz.func4 Tryz.call4 rfl (by rw [m4]; exact hk) (Nat.le_of_ble_eq_true (by kernel_rfl))
    (all_at (d := Code.skip) (n := 0) (by kernel_rfl) fun i hi => absurd hi (Nat.not_lt_zero i))
    (all_at (d := Code.skip) (n := 0) (by kernel_rfl) fun i hi => absurd hi (Nat.not_lt_zero i)) HH HG hz hp
end Go.Proofs.YtahlcbmmjfdcaaaGreatDoor.PX
