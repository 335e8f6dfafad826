/- PX, part 24: words for the plain laws: conditions, reads, loops that count. -/
import Derived.Test.YtahlcbmmjfdcaaaGreatDoorPXRow
set_option linter.all false
namespace Go.Proofs.YtahlcbmmjfdcaaaGreatDoor.PX
set_option linter.unusedVariables false
theorem br_dec {p : Prop} [Decidable p] {X Y : Prop} : br (decide p) X Y = if p then X else Y := by by_cases h : p <;> simp [br, h]
theorem br_not {b : Bool} {X Y : Prop} : br (!b) X Y = br b Y X := by cases b <;> rfl
theorem br_true {X Y : Prop} : br true X Y = X := rfl
theorem br_false {X Y : Prop} : br false X Y = Y := rfl
theorem gd_dec {p : Prop} [Decidable p] {X : Prop} : gd (decide p) X = (p ∧ X) := by by_cases h : p <;> simp [gd, h]
theorem at_get {α : Type} {l : List α} {i : Nat} {x : α} {K : α → Prop} (h : l[i]? = some x) : at' l i K = K x := by unfold at'; rw [h]
theorem at_lt {α : Type} {l : List α} {i : Nat} {K : α → Prop} (h : i < l.length) : at' l i K = K l[i] := at_get (List.getElem?_eq_getElem h)
theorem wrap64 {n : Int} (h1 : -9223372036854775808 ≤ n) (h2 : n < 9223372036854775808) : IntKind.wrap .i64 n = n := by
  have e : IntKind.wrap .i64 n = if n % 18446744073709551616 ≥ 9223372036854775808 then n % 18446744073709551616 - 18446744073709551616 else n % 18446744073709551616 := by simp [IntKind.wrap, IntKind.signed, IntKind.bits]
  rw [e]
  split <;> omega
/-- A loop that counts from 0 to n, its state after j rounds St j. -/
theorem loopN {S : Type} {n : Nat} {L : Nat → Int → S → Prop} {B : (Int → S → Prop) → Int → S → Prop} (hL : ∀ k i s, L (k + 1) i s = B (L k) i s) (St : Nat → S)
    (hstep : ∀ j, j < n → ∀ R : Int → S → Prop, R ((j + 1 : Nat) : Int) (St (j + 1)) → B R (j : Int) (St j)) (hend : ∀ R : Int → S → Prop, B R (n : Int) (St n)) : ∃ k, L k 0 (St 0) := by
  have key : ∀ d, d ≤ n → L (d + 1) ((n - d : Nat) : Int) (St (n - d)) := by
    intro d
    induction d with
    | zero => intro _; rw [hL]; exact hend _
    | succ d ih =>
      intro hd
      rw [hL]
      refine hstep (n - (d + 1)) (by omega) _ ?_
      rw [show n - (d + 1) + 1 = n - d by omega]
      exact ih (by omega)
  have := key n (Nat.le_refl _)
  rw [Nat.sub_self] at this
  exact ⟨n + 1, this⟩
theorem loopN0 {n : Nat} {L : Nat → Int → Prop} {B : (Int → Prop) → Int → Prop} (hL : ∀ k i, L (k + 1) i = B (L k) i)
    (hstep : ∀ j, j < n → ∀ R : Int → Prop, R ((j + 1 : Nat) : Int) → B R (j : Int)) (hend : ∀ R : Int → Prop, B R (n : Int)) : ∃ k, L k 0 := by
  obtain ⟨k, h⟩ := loopN (S := Unit) (L := fun k i _ => L k i) (B := fun R i _ => B (fun i => R i ()) i) (n := n) (fun k i _ => hL k i) (fun _ => ()) (fun j hj R hR => hstep j hj _ hR) (fun R => hend _)
  exact ⟨k, h⟩
theorem szL_one {zs xs : List D} (h : fitL zs xs) (hp : 0 < zs.length) : 1 ≤ szL xs := by have := szL_pos xs; have := fitL_len h; omega
theorem szE_len {zs : List D} {es : List (List D)} (h : fitE zs es) (hp : 0 < zs.length) : es.length ≤ szE es := by
  induction es with
  | nil => simp
  | cons e es ih =>
    have h1 := szL_one (h e (by simp)) hp
    have h2 := ih fun x hx => h x (List.mem_cons_of_mem _ hx)
    simp only [szE, List.map_cons, List.sum_cons, List.length_cons] at h2 ⊢
    omega
theorem eqL_self : ∀ {l : List D} {K : Bool → Prop}, (∀ x ∈ l, (∃ k n, x = .int k n) ∨ (∃ b, x = .bool b) ∨ ∃ s, x = .str s) → eqL l l K = K true
  | [], K, _ => rfl
  | x :: l, K, h => by
    have ih := eqL_self (l := l) (K := K) fun y hy => h y (List.mem_cons_of_mem _ hy)
    rcases h x (by simp) with ⟨k, n, rfl⟩ | ⟨b, rfl⟩ | ⟨s, rfl⟩
    · simp [eqL, eqD, dK, br, ih]
    · simp [eqL, eqD, dB, br, ih]
    · simp [eqL, eqD, dS, br, ih]
theorem take_snoc {α : Type} {l : List α} {j : Nat} (h : j < l.length) : l.take j ++ [l[j]] = l.take (j + 1) := by rw [List.take_add_one, List.getElem?_eq_getElem h]; rfl
end Go.Proofs.YtahlcbmmjfdcaaaGreatDoor.PX
