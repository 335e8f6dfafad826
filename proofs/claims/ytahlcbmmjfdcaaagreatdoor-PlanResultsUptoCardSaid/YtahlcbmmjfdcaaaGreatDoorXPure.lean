/- The plain law of PlanResults: what the program's Result and the reference's give, and the counts. -/
import Derived.Test.YtahlcbmmjfdcaaaGreatDoorXP
import Derived.Test.YtahlcbmmjfdcaaaGreatDoorPXPure
set_option linter.all false
set_option linter.unusedVariables false
namespace Go.Proofs.YtahlcbmmjfdcaaaGreatDoor.PX
abbrev zA : List D := [.int .i64 0, .int .i64 0, .int .i64 0]
theorem fitA {e : List D} (h : fitL zA e) : ∃ a b c, e = [.int .i64 a, .int .i64 b, .int .i64 c] := by
  match e with
  | [] | [_] | [_, _] | _ :: _ :: _ :: _ :: _ => simp [fitL] at h
  | [x, y, z] =>
    obtain ⟨⟨a, ha, _⟩, ⟨b, hb, _⟩, ⟨c, hc, _⟩, _⟩ := h
    subst ha hb hc
    exact ⟨a, b, c, rfl⟩
theorem fitI {e : List D} (h : fitL ti123.zero e) : ∃ p k m u g t a d, e = [.str p, .int .i64 k, .int .u32 m, .int .u32 u, .int .u32 g, .int .i64 t, .int .i64 a, .str d] := by
  have hl : e.length = 8 := fitL_len h
  match e, hl with
  | [x0, x1, x2, x3, x4, x5, x6, x7], _ =>
    obtain ⟨⟨p, h0⟩, ⟨k, h1, _⟩, ⟨m, h2, _⟩, ⟨u, h3, _⟩, ⟨g, h4, _⟩, ⟨t, h5, _⟩, ⟨a, h6, _⟩, ⟨d, h7⟩, _⟩ := h
    subst h0 h1 h2 h3 h4 h5 h6 h7
    exact ⟨p, k, m, u, g, t, a, d, rfl⟩
theorem rdA {a b c : Int} {K : Int → Int → Int → Prop} : rd84 [.int .i64 a, .int .i64 b, .int .i64 c] 0 K = K a b c := rfl
theorem rdA' {a b c : Int} {K : Int → Int → Int → Prop} : rd94 [.int .i64 a, .int .i64 b, .int .i64 c] 0 K = K a b c := rfl
theorem rdI {p d : List UInt8} {k m u g t a : Int} {K : List UInt8 → Int → Int → Int → Int → Int → Int → List UInt8 → Prop} : rd123 [.str p, .int .i64 k, .int .u32 m, .int .u32 u, .int .u32 g, .int .i64 t, .int .i64 a, .str d] 0 K = K p k m u g t a d := rfl

theorem few_spec {es : List (List D)} (he : fitE ti123.zero es) (hl : es.length ≤ 1048576) {K : Bool → Prop} (hK : ∀ b, K b) : f30 es K := by
  refine loopN0 (n := es.length) (B := B30_2 es es es.length K (K true)) (fun k i => rfl) (fun j hj R hR => ?_) (fun R => ?_)
  · obtain ⟨p, k, m, u, g, t, a, d, e⟩ := fitI (he _ (List.getElem_mem hj))
    simp only [B30_2, br_dec, gd_dec, Int.toNat_natCast, at_lt hj, e, rdI]
    rw [if_pos (by omega), wrap64 (by omega) (by omega)]
    refine ⟨by omega, ?_⟩
    split
    · exact hK _
    · split
      · exact hK _
      · split
        · exact hK _
        · exact hR
  · simp only [B30_2, br_dec]
    rw [if_neg (by omega)]
    exact hK _
theorem to_spec {xs : List (List D)} (hx : fitE zA xs) (hl : xs.length ≤ 1048576) {K : List (List D) → Prop} (hK : K xs) : f33 xs K := by
  refine loopN (n := xs.length) (B := B33_3 xs xs.length K) (fun k i s => rfl) (fun j => xs.take j) (fun j hj R hR => ?_) (fun R => ?_)
  · obtain ⟨a, b, c, e⟩ := fitA (hx _ (List.getElem_mem hj))
    simp only [B33_3, br_dec, gd_dec, Int.toNat_natCast, at_lt hj, e, rdA]
    rw [if_pos (by omega), wrap64 (by omega) (by omega), ← e, take_snoc hj]
    refine ⟨by omega, ?_, hR⟩
    simp only [List.length_take]
    omega
  · simp only [B33_3, br_dec]
    rw [if_neg (by omega), List.take_length]
    exact hK

/-! ### What is there behind the actions -/
def kindOf (e : List D) : Int := match e with | [.int _ k, _, _] => k | _ => 0
def resOne (es ts : List (List D)) (e : List D) : List (List D) :=
  match e with
  | [.int _ k, .int _ a, .int _ b] =>
    if k = 1 then (if 0 ≤ a ∧ a < es.length then (es[a.toNat]?).toList else [])
    else if k = 2 ∨ k = 4 then (if 0 ≤ b ∧ b < ts.length then (ts[b.toNat]?).toList else [])
    else []
  | _ => []
def res (es ts xs : List (List D)) : List (List D) := xs.flatMap (resOne es ts)
theorem resOne_le {es ts : List (List D)} {e : List D} : (resOne es ts e).length ≤ 1 := by
  unfold resOne
  split
  · repeat' split
    all_goals first | (cases h : es[_]? <;> simp_all; done) | (cases h : ts[_]? <;> simp_all; done) | simp
  · simp
theorem res_len {es ts xs : List (List D)} : (res es ts xs).length ≤ xs.length := by
  induction xs with
  | nil => simp [res]
  | cons x xs ih =>
    have := resOne_le (es := es) (ts := ts) (e := x)
    simp only [res, List.flatMap_cons, List.length_append, List.length_cons] at ih ⊢
    omega
theorem res_snoc {es ts xs : List (List D)} {j : Nat} (hj : j < xs.length) : res es ts (xs.take (j + 1)) = res es ts (xs.take j) ++ resOne es ts xs[j] := by
  unfold res
  rw [← take_snoc hj, List.flatMap_append]
  simp
theorem fit_res {es ts xs : List (List D)} (he : fitE ti123.zero es) (ht : fitE ti123.zero ts) : fitE ti123.zero (res es ts xs) := by
  intro y hy
  simp only [res, List.mem_flatMap] at hy
  obtain ⟨x, hx, hy⟩ := hy
  unfold resOne at hy
  have key : ∀ {l : List (List D)} {i : Nat}, fitE ti123.zero l → y ∈ (l[i]?).toList → fitL ti123.zero y := fun {l i} hl hm => by
    cases h : l[i]? with
    | none => rw [h] at hm; simp at hm
    | some z => rw [h] at hm; simp at hm; subst hm; exact hl _ (List.mem_of_getElem? h)
  split at hy
  · repeat' split at hy
    all_goals first | exact key he hy | exact key ht hy | (simp at hy; done)
  · simp at hy
theorem result_spec {xs es ts : List (List D)} (hx : fitE zA xs) (he : fitE ti123.zero es) (ht : fitE ti123.zero ts) (hl : xs.length ≤ 1048576) {K : List (List D) → Prop} (hK : K (res es ts xs)) : f31 xs es ts K := by
  refine loopN (n := xs.length) (B := B31_3 es ts xs xs.length K) (fun k i s => rfl) (fun j => res es ts (xs.take j)) (fun j hj R hR => ?_) (fun R => ?_)
  · obtain ⟨k, a, b, e⟩ := fitA (hx _ (List.getElem_mem hj))
    have hlen : (res es ts (xs.take j)).length ≤ 1048576 := Nat.le_trans res_len (by simp; omega)
    rw [res_snoc hj, e] at hR
    generalize res es ts (xs.take j) = acc at *
    simp only [B31_3, C31_7, C31_8, br_dec, gd_dec, Int.toNat_natCast, at_lt hj, e, rdA]
    rw [if_pos (by omega), wrap64 (by omega) (by omega)]
    refine ⟨by omega, ?_⟩
    simp only [resOne] at hR
    have app : ∀ {l : List (List D)} {i : Int} {K' : List (List D) → Prop}, fitE ti123.zero l → 0 ≤ i → i < l.length → K' (acc ++ (l[i.toNat]?).toList) → (0 ≤ i ∧ at' l i.toNat fun e => rd123 e 0 fun p k m u g t a d => (acc.length + 1) * 72 ≤ 2 ^ 47 ∧ K' (acc ++ [[D.str p, D.int .i64 k, D.int .u32 m, D.int .u32 u, D.int .u32 g, D.int .i64 t, D.int .i64 a, D.str d]])) := by
      intro l i K' hfit h0 h1 hk
      have hlt : i.toNat < l.length := by omega
      obtain ⟨p, k, m, u, g, t, a, d, e⟩ := fitI (hfit _ (List.getElem_mem hlt))
      rw [List.getElem?_eq_getElem hlt, Option.toList_some] at hk
      rw [at_lt hlt, e, rdI, ← e]
      exact ⟨h0, by omega, hk⟩
    by_cases h1 : k = 1
    · subst h1
      rw [if_pos rfl] at hR
      rw [if_pos rfl]
      by_cases h2 : 0 ≤ a
      · rw [if_pos h2]
        by_cases h3 : a < es.length
        · rw [if_pos ⟨h2, h3⟩] at hR
          rw [if_pos h3]
          refine app he h2 h3 ?_
          exact hR
        · rw [if_neg (fun h => h3 h.2), List.append_nil] at hR
          rw [if_neg h3]
          simpa using hR
      · rw [if_neg (fun h => h2 h.1), List.append_nil] at hR
        rw [if_neg h2]
        simpa using hR
    · rw [if_neg h1] at hR
      rw [if_neg h1]
      by_cases h2 : k = 2 ∨ k = 4
      · rw [if_pos h2] at hR
        have both : ∀ {X Y : Prop}, X → (if k = 2 then X else if k = 4 then X else Y) := by
          intro X Y hX
          rcases h2 with h | h
          · rw [if_pos h]; exact hX
          · rw [if_neg (by omega), if_pos h]; exact hX
        refine both ?_
        by_cases h3 : 0 ≤ b
        · rw [if_pos h3]
          by_cases h4 : b < ts.length
          · rw [if_pos ⟨h3, h4⟩] at hR
            rw [if_pos h4]
            exact app ht h3 h4 hR
          · rw [if_neg (fun h => h4 h.2), List.append_nil] at hR
            rw [if_neg h4]
            exact hR
        · rw [if_neg (fun h => h3 h.1), List.append_nil] at hR
          rw [if_neg h3]
          exact hR
      · rw [if_neg h2, List.append_nil] at hR
        rw [if_neg (fun h => h2 (.inl h)), if_neg (fun h => h2 (.inr h))]
        exact hR
  · simp only [B31_3, br_dec]
    rw [if_neg (by omega), List.take_length]
    exact hK
theorem result_spec2 {xs es ts : List (List D)} (hx : fitE zA xs) (he : fitE ti123.zero es) (ht : fitE ti123.zero ts) (hl : xs.length ≤ 1048576) {K : List (List D) → Prop} (hK : K (res es ts xs)) : f32 xs es ts K := by
  refine loopN (n := xs.length) (B := B32_3 es ts xs xs.length K) (fun k i s => rfl) (fun j => res es ts (xs.take j)) (fun j hj R hR => ?_) (fun R => ?_)
  · obtain ⟨k, a, b, e⟩ := fitA (hx _ (List.getElem_mem hj))
    have hlen : (res es ts (xs.take j)).length ≤ 1048576 := Nat.le_trans res_len (by simp; omega)
    rw [res_snoc hj, e] at hR
    generalize res es ts (xs.take j) = acc at *
    simp only [B32_3, C32_7, C32_8, br_dec, gd_dec, Int.toNat_natCast, at_lt hj, e, rdA']
    rw [if_pos (by omega), wrap64 (by omega) (by omega)]
    refine ⟨by omega, ?_⟩
    simp only [resOne] at hR
    have app : ∀ {l : List (List D)} {i : Int} {K' : List (List D) → Prop}, fitE ti123.zero l → 0 ≤ i → i < l.length → K' (acc ++ (l[i.toNat]?).toList) → (0 ≤ i ∧ at' l i.toNat fun e => rd123 e 0 fun p k m u g t a d => (acc.length + 1) * 72 ≤ 2 ^ 47 ∧ K' (acc ++ [[D.str p, D.int .i64 k, D.int .u32 m, D.int .u32 u, D.int .u32 g, D.int .i64 t, D.int .i64 a, D.str d]])) := by
      intro l i K' hfit h0 h1 hk
      have hlt : i.toNat < l.length := by omega
      obtain ⟨p, k, m, u, g, t, a, d, e⟩ := fitI (hfit _ (List.getElem_mem hlt))
      rw [List.getElem?_eq_getElem hlt, Option.toList_some] at hk
      rw [at_lt hlt, e, rdI, ← e]
      exact ⟨h0, by omega, hk⟩
    by_cases h1 : k = 1
    · subst h1
      rw [if_pos rfl] at hR
      rw [if_pos rfl]
      by_cases h2 : 0 ≤ a
      · rw [if_pos h2]
        by_cases h3 : a < es.length
        · rw [if_pos ⟨h2, h3⟩] at hR
          rw [if_pos h3]
          refine app he h2 h3 ?_
          simpa using hR
        · rw [if_neg (fun h => h3 h.2), List.append_nil] at hR
          rw [if_neg h3]
          simpa using hR
      · rw [if_neg (fun h => h2 h.1), List.append_nil] at hR
        rw [if_neg h2]
        simpa using hR
    · rw [if_neg h1] at hR
      rw [if_neg h1]
      by_cases h2 : k = 2 ∨ k = 4
      · rw [if_pos h2] at hR
        have both : ∀ {X Y : Prop}, X → (if k = 2 then X else if k = 4 then X else Y) := by
          intro X Y hX
          rcases h2 with h | h
          · rw [if_pos h]; exact hX
          · rw [if_neg (by omega), if_pos h]; exact hX
        refine both ?_
        by_cases h3 : 0 ≤ b
        · rw [if_pos h3]
          by_cases h4 : b < ts.length
          · rw [if_pos ⟨h3, h4⟩] at hR
            rw [if_pos h4]
            exact app ht h3 h4 hR
          · rw [if_neg (fun h => h4 h.2), List.append_nil] at hR
            rw [if_neg h4]
            exact hR
        · rw [if_neg (fun h => h3 h.1), List.append_nil] at hR
          rw [if_neg h3]
          exact hR
      · rw [if_neg h2, List.append_nil] at hR
        rw [if_neg (fun h => h2 (.inl h)), if_neg (fun h => h2 (.inr h))]
        exact hR
  · simp only [B32_3, br_dec]
    rw [if_neg (by omega), List.take_length]
    exact hK
theorem same_spec {l : List (List D)} (hf : fitE ti123.zero l) (hl : l.length ≤ 1048576) {K : Bool → Prop} (hK : K true) : f28 l l K := by
  unfold f28
  rw [br_not, br_dec, if_pos rfl]
  refine loopN0 (n := l.length) (B := B28_4 l l l.length K (K true)) (fun k i => rfl) (fun j hj R hR => ?_) (fun R => ?_)
  · obtain ⟨p, k, m, u, g, t, a, d, e⟩ := fitI (hf _ (List.getElem_mem hj))
    simp only [B28_4, br_dec, gd_dec, Int.toNat_natCast, at_lt hj, e, rdI]
    rw [if_pos (by omega), wrap64 (by omega) (by omega), eqL_self (by simp)]
    exact ⟨by omega, by omega, hR⟩
  · simp only [B28_4, br_dec]
    rw [if_neg (by omega)]
    exact hK
/-! ### How many of each kind -/
def cnt (xs : List (List D)) (k : Int) : Nat := xs.countP fun e => decide (kindOf e = k)
theorem cnt_snoc {xs : List (List D)} {j : Nat} {k' : Int} (hj : j < xs.length) : cnt (xs.take (j + 1)) k' = cnt (xs.take j) k' + (if kindOf xs[j] = k' then 1 else 0) := by
  unfold cnt
  rw [← take_snoc hj, List.countP_append]
  simp [List.countP_cons]
theorem cnt_le {xs : List (List D)} {k : Int} : cnt xs k ≤ xs.length := List.countP_le_length
def cnts (xs : List (List D)) : List D := [.int .i64 0, .int .i64 (cnt xs 1), .int .i64 (cnt xs 2), .int .i64 (cnt xs 3), .int .i64 (cnt xs 4)]
theorem rd5 {a b c d e : Int} {K : Int → Int → Int → Int → Int → Prop} : rd54 [.int .i64 a, .int .i64 b, .int .i64 c, .int .i64 d, .int .i64 e] 0 K = K a b c d e := rfl
theorem count_spec {xs : List (List D)} (hx : fitE zA xs) (hl : xs.length ≤ 1048576) {K : Int → Int → Int → Int → Int → Prop} (hK : K 0 (cnt xs 1) (cnt xs 2) (cnt xs 3) (cnt xs 4)) : f34 xs K := by
  refine loopN (n := xs.length) (B := B34_3 xs xs.length [D.int .i64 0, D.int .i64 0, D.int .i64 0, D.int .i64 0, D.int .i64 0] (fun e => rd54 e 0 fun a b c d e => K a b c d e)) (fun k i s => rfl) (fun j => cnts (xs.take j)) (fun j hj R hR => ?_) (fun R => ?_)
  · obtain ⟨k, a, b, e⟩ := fitA (hx _ (List.getElem_mem hj))
    have hb : ∀ k, cnt (xs.take j) k ≤ 1048576 := fun k => Nat.le_trans cnt_le (by simp; omega)
    have b1 := hb 1
    have b2 := hb 2
    have b3 := hb 3
    have b4 := hb 4
    simp only [cnts, cnt_snoc hj, e, kindOf] at hR ⊢
    generalize cnt (xs.take j) 1 = c1 at *
    generalize cnt (xs.take j) 2 = c2 at *
    generalize cnt (xs.take j) 3 = c3 at *
    generalize cnt (xs.take j) 4 = c4 at *
    simp only [B34_3, br_dec, gd_dec, Int.toNat_natCast, at_lt hj, e, rdA]
    rw [if_pos (by omega), wrap64 (n := (j : Int) + 1) (by omega) (by omega)]
    refine ⟨by omega, ?_⟩
    by_cases h : 1 ≤ k ∧ k ≤ 4
    · rw [if_pos h.1, if_pos h.2]
      have hk : k = 1 ∨ k = 2 ∨ k = 3 ∨ k = 4 := by omega
      rcases hk with rfl | rfl | rfl | rfl
      · refine ⟨by omega, ?_⟩
        show (_ ∧ _ ∧ R _ [_, .int .i64 (IntKind.wrap .i64 ((c1 : Int) + 1)), _, _, _])
        rw [wrap64 (by omega) (by omega)]
        exact ⟨by omega, by simp, hR⟩
      · refine ⟨by omega, ?_⟩
        show (_ ∧ _ ∧ R _ [_, _, .int .i64 (IntKind.wrap .i64 ((c2 : Int) + 1)), _, _])
        rw [wrap64 (by omega) (by omega)]
        exact ⟨by omega, by simp, hR⟩
      · refine ⟨by omega, ?_⟩
        show (_ ∧ _ ∧ R _ [_, _, _, .int .i64 (IntKind.wrap .i64 ((c3 : Int) + 1)), _])
        rw [wrap64 (by omega) (by omega)]
        exact ⟨by omega, by simp, hR⟩
      · refine ⟨by omega, ?_⟩
        show (_ ∧ _ ∧ R _ [_, _, _, _, .int .i64 (IntKind.wrap .i64 ((c4 : Int) + 1))])
        rw [wrap64 (by omega) (by omega)]
        exact ⟨by omega, by simp, hR⟩
    · rw [if_neg (by omega), if_neg (by omega), if_neg (by omega), if_neg (by omega)] at hR
      by_cases h1 : 1 ≤ k
      · rw [if_pos h1, if_neg (by omega)]; exact hR
      · rw [if_neg h1]; exact hR
  · simp only [B34_3, br_dec]
    rw [if_neg (by omega), List.take_length]
    exact hK
theorem inner_spec {xs2 : List (List D)} {n7 n8 : Int} {e4 : List D} {n10 n11 k : Int} {E : List D → Prop} {c1 c2 c3 c4 : Nat} (h1 : c1 ≤ 1048576) (h2 : c2 ≤ 1048576) (h3 : c3 ≤ 1048576) (h4 : c4 ≤ 1048576)
    (hE : E [.int .i64 0, .int .i64 ((c1 + (if k = 1 then 1 else 0) : Nat) : Int), .int .i64 ((c2 + (if k = 2 then 1 else 0) : Nat) : Int), .int .i64 ((c3 + (if k = 3 then 1 else 0) : Nat) : Int), .int .i64 ((c4 + (if k = 4 then 1 else 0) : Nat) : Int)]) :
    ∃ m, L35_6 xs2 n7 n8 e4 k n10 n11 E m 1 [.int .i64 0, .int .i64 c1, .int .i64 c2, .int .i64 c3, .int .i64 c4] := by
  refine ⟨5, ?_⟩
  have w1 : IntKind.wrap .i64 ((1 : Int) + 1) = 2 := by decide
  have w2 : IntKind.wrap .i64 ((2 : Int) + 1) = 3 := by decide
  have w3 : IntKind.wrap .i64 ((3 : Int) + 1) = 4 := by decide
  have w4 : IntKind.wrap .i64 ((4 : Int) + 1) = 5 := by decide
  by_cases h : 1 ≤ k ∧ k ≤ 4
  · have hk : k = 1 ∨ k = 2 ∨ k = 3 ∨ k = 4 := by omega
    rcases hk with rfl | rfl | rfl | rfl
    · simp only [L35_6, B35_6, br_dec, gd_dec, w1, w2, w3, w4]
      refine (show _ ∧ _ ∧ _ ∧ E [_, .int .i64 (IntKind.wrap .i64 ((c1 : Int) + 1)), _, _, _] from ?_)
      rw [wrap64 (by omega) (by omega)]
      exact ⟨by omega, by omega, by simp, hE⟩
    · simp only [L35_6, B35_6, br_dec, gd_dec, w1, w2, w3, w4]
      refine (show _ ∧ _ ∧ _ ∧ E [_, _, .int .i64 (IntKind.wrap .i64 ((c2 : Int) + 1)), _, _] from ?_)
      rw [wrap64 (by omega) (by omega)]
      exact ⟨by omega, by omega, by simp, hE⟩
    · simp only [L35_6, B35_6, br_dec, gd_dec, w1, w2, w3, w4]
      refine (show _ ∧ _ ∧ _ ∧ E [_, _, _, .int .i64 (IntKind.wrap .i64 ((c3 : Int) + 1)), _] from ?_)
      rw [wrap64 (by omega) (by omega)]
      exact ⟨by omega, by omega, by simp, hE⟩
    · simp only [L35_6, B35_6, br_dec, gd_dec, w1, w2, w3, w4]
      refine (show _ ∧ _ ∧ _ ∧ E [_, _, _, _, .int .i64 (IntKind.wrap .i64 ((c4 : Int) + 1))] from ?_)
      rw [wrap64 (by omega) (by omega)]
      exact ⟨by omega, by omega, by simp, hE⟩
  · rw [if_neg (by omega), if_neg (by omega), if_neg (by omega), if_neg (by omega)] at hE
    simp only [L35_6, B35_6, br_dec, gd_dec, w1, w2, w3, w4]
    rw [if_neg (show ¬k = 1 by omega), if_neg (show ¬k = 2 by omega), if_neg (show ¬k = 3 by omega), if_neg (show ¬k = 4 by omega)]
    exact hE
theorem count_spec2 {xs : List (List D)} (hx : fitE zA xs) (hl : xs.length ≤ 1048576) {K : Int → Int → Int → Int → Int → Prop} (hK : K 0 (cnt xs 1) (cnt xs 2) (cnt xs 3) (cnt xs 4)) : f35 xs K := by
  refine loopN (n := xs.length) (B := B35_3 xs xs.length [D.int .i64 0, D.int .i64 0, D.int .i64 0, D.int .i64 0, D.int .i64 0] (fun e => rd54 e 0 fun a b c d e => K a b c d e)) (fun k i s => rfl) (fun j => cnts (xs.take j)) (fun j hj R hR => ?_) (fun R => ?_)
  · obtain ⟨k, a, b, e⟩ := fitA (hx _ (List.getElem_mem hj))
    have hb : ∀ k, cnt (xs.take j) k ≤ 1048576 := fun k => Nat.le_trans cnt_le (by simp; omega)
    simp only [cnts, cnt_snoc hj, e, kindOf] at hR
    simp only [B35_3, br_dec, gd_dec, Int.toNat_natCast, at_lt hj, e, rdA']
    rw [if_pos (by omega), wrap64 (n := (j : Int) + 1) (by omega) (by omega)]
    exact ⟨by omega, inner_spec (hb 1) (hb 2) (hb 3) (hb 4) hR⟩
  · simp only [B35_3, br_dec]
    rw [if_neg (by omega), List.take_length]
    exact hK
theorem pure_law (xs es ts : List (List D)) (ha : fitE [.int .i64 0, .int .i64 0, .int .i64 0] xs) (he : fitE ti123.zero es) (ht : fitE ti123.zero ts) (hs : szE xs + szE es + szE ts ≤ 1048576) (K : Bool → Prop) (hK : K true) : f4 xs es ts K := by
  have lx := szE_len ha (by simp)
  have le := szE_len he (by decide)
  have lt := szE_len ht (by decide)
  unfold f4
  rw [br_dec]
  by_cases h : (100 : Int) < (xs.length : Int)
  · rw [if_pos h]; exact hK
  rw [if_neg h]
  refine few_spec he (by omega) fun b1 => ?_
  cases b1
  · exact hK
  refine few_spec ht (by omega) fun b2 => ?_
  cases b2
  · exact hK
  refine result_spec ha he ht (by omega) ?_
  refine to_spec ha (by omega) ?_
  refine result_spec2 ha he ht (by omega) ?_
  refine same_spec (fit_res he ht) (Nat.le_trans res_len (by omega)) ?_
  refine count_spec ha (by omega) ?_
  refine to_spec ha (by omega) ?_
  refine count_spec2 ha (by omega) ?_
  rw [eqL_self (by simp)]
  exact hK
end Go.Proofs.YtahlcbmmjfdcaaaGreatDoor.PX
