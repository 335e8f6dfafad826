/- PX, part 22: what is told of a type, shown at the program's own table. -/
import Derived.Test.YtahlcbmmjfdcaaaGreatDoorPXPrn
import Derived.Laws.StructEq
import Derived.ChangeKeysEq
set_option linter.all false
namespace Go.Proofs.YtahlcbmmjfdcaaaGreatDoor.PX
set_option linter.unusedVariables false
set_option linter.unusedSimpArgs false

/-! ### Zeros -/
def zok : D → Value → Bool
  | .int k n, .int k' m => k == k' && n == m
  | .bool a, .bool b => a == b
  | .str s, .string b => decide (s = b.data.toList)
  | .sl _ [] .nil, .slice none 0 0 => true
  | .nilptr, .pointer none => true
  | .nilmap, .map none => true
  | .nilfn, .nilFunc => true
  | .niliface, .nilIface => true
  | .undef, v => v.oneCell'
  | _, _ => false
theorem zok_rel {w : World} {N : Nat → Prop} {d : D} {v : Value} (h : zok d v = true) : DRel w N d v := by
  unfold zok at h
  split at h
  · simp only [Bool.and_eq_true, beq_iff_eq] at h; obtain ⟨rfl, rfl⟩ := h; exact .int
  · simp only [beq_iff_eq] at h; subst h; exact .bool
  · rename_i s b
    have := of_decide_eq_true h
    subst this
    have := @DRel.str w N b.data.toList
    rwa [str_eta] at this
  · exact .sl (us := []) (by simp) (fun e => by cases e) (by simp) (fun _ h => by cases h) (fun h => absurd rfl h) rfl (by simp)
  · exact .nilptr
  · exact .nilmap
  · exact .nilfn
  · exact .niliface
  · exact .undef h
  · cases h
def zoks : List D → List Value → Bool | [], [] => true | d :: ds, v :: vs => zok d v && zoks ds vs | _, _ => false
theorem zoks_rel {w : World} {N : Nat → Prop} : ∀ {ds : List D} {vs : List Value}, zoks ds vs = true → Pt (DRel w N) ds vs
  | [], [], _ => Pt.nil
  | d :: ds, v :: vs, h => by
    simp only [zoks, Bool.and_eq_true] at h
    exact Pt.cons (zok_rel h.1) (zoks_rel h.2)
  | [], _ :: _, h => by cases h
  | _ :: _, [], h => by cases h
def mok (ag : Bool) (l : List D) (z : Value) : Bool :=
  match ag, z with
  | true, .agg cs => zoks l cs.toList
  | true, _ => false
  | false, z => match l with | [x] => zok x z | _ => false
theorem mok_rel {ag : Bool} {l : List D} {z : Value} (h : mok ag l z = true) (w : World) (N : Nat → Prop) : MV w N ag l z := by
  unfold mok at h
  split at h
  · exact ⟨_, rfl, zoks_rel h⟩
  · cases h
  · split at h
    · exact ⟨_, rfl, zok_rel h⟩
    · cases h

/-! ### Comparing -/
theorem eqL_app {l1 l2 m1 m2 : List D} (hl : l1.length = m1.length) : ∀ {K : Bool → Prop}, eqL (l1 ++ l2) (m1 ++ m2) K = eqL l1 m1 fun b => br b (eqL l2 m2 K) (K false) := by
  induction l1 generalizing m1 with
  | nil => intro K; cases m1 with
    | nil => rfl
    | cons _ _ => simp at hl
  | cons x l1 ih => intro K; cases m1 with
    | nil => simp at hl
    | cons y m1 =>
      simp only [List.length_cons, Nat.add_right_cancel_iff] at hl
      simp only [List.cons_append, eqL, ih hl]
      congr 1
theorem kindL_len : ∀ {zs l : List D}, kindL zs l → l.length = zs.length
  | [], [], _ => rfl
  | z :: zs, x :: xs, h => by simp [kindL_len h.2]
  | [], _ :: _, h => h.elim
  | _ :: _, [], h => h.elim
theorem kindL_app : ∀ {zs zs' l : List D}, kindL (zs ++ zs') l → ∃ a b, l = a ++ b ∧ kindL zs a ∧ kindL zs' b
  | [], zs', l, h => ⟨[], l, rfl, trivial, h⟩
  | z :: zs, zs', x :: xs, h => by
    obtain ⟨a, b, rfl, h1, h2⟩ := kindL_app h.2
    exact ⟨x :: a, b, rfl, ⟨h.1, h1⟩, h2⟩
  | z :: zs, zs', [], h => h.elim
/-- The zero of a type whose values are held against each other cell by cell. -/
def eqFs (P : Program) (r : TypeId → Option (List D)) : Nat → List Field → Option (List D)
  | _, [] => some []
  | o, f :: fs => (r f.type).bind fun z => if f.name ≠ "_" ∧ f.offset = o ∧ P.cellsOf f.type = z.length then (eqFs P r (o + z.length) fs).map (z ++ ·) else none
def eqZ (P : Program) : Nat → TypeId → Option (List D)
  | 0, _ => none
  | n + 1, t => match P.underlying t with
    | some (.int k) => some [.int k 0]
    | some .bool => some [.bool false]
    | some .string => some [.str []]
    | some (.struct fs) => if P.stoodInHeld t = false then eqFs P (eqZ P n) 0 fs.toList else none
    | some (.array k e) => (eqZ P n e).bind fun z => if P.cellsOf e = z.length then some (List.replicate k z).flatten else none
    | _ => none
def aggT (P : Program) (t : TypeId) : Bool := match P.underlying t with | some (.struct _) | some (.array _ _) => true | _ => false
def valT (P : Program) (t : TypeId) (cs : List Value) : Value := match aggT P t with | true => .agg cs.toArray | false => cs.headD undef
section
variable {P : Program} {w : World} {N : Nat → Prop}
theorem run_part {t : TypeId} {cs : List Value} {o n : Nat} {d : TypeDesc} (hu : P.underlying t = some d) (hn : P.cellsOf t = n) (hne : aggT P t = false → n = 1) (hle : aggT P t = false → o + n ≤ cs.length) : (part t cs.toArray o).run P w = .ok (valT P t ((cs.drop o).take n)) w := by
  have hi := info_of_underlying hu
  obtain ⟨i, hi⟩ := hi
  unfold part
  have ha : (isAgg t).run P w = .ok (aggT P t) w := by
    simp only [isAgg, Sem.run_bind, run_underlying hu w, Result.andThen_ok, aggT, hu]
    cases d <;> rfl
  simp only [Sem.run_bind, ha, Result.andThen_ok]
  cases hx : aggT P t with
  | true =>
    simp only [if_true, Sem.run_bind, run_sizeOf w hi, Result.andThen_ok, Sem.run_pure, valT, hx, hn]
    congr 2
    simp [List.extract_toArray, List.extract_eq_take_drop]
  | false =>
    have h1 := hne hx
    subst h1
    have hlt : o < cs.length := by have := hle hx; omega
    simp only [Bool.false_eq_true, if_false, valT, hx]
    rw [show cs.toArray[o]? = some cs[o] by simp [hlt]]
    simp only [Sem.run_pure]
    congr 1
    rw [List.drop_eq_getElem_cons hlt]
    rfl
theorem eqZ_desc {n : Nat} {t : TypeId} {zs : List D} (h : eqZ P n t = some zs) : (∃ d, P.underlying t = some d) ∧ (aggT P t = false → zs.length = 1) := by
  cases n with
  | zero => cases h
  | succ n =>
    simp only [eqZ] at h
    unfold aggT
    split at h
    all_goals first | (rename_i hu; rw [hu]; cases h; exact ⟨⟨_, rfl⟩, fun _ => rfl⟩) | (rename_i hu; rw [hu]; exact ⟨⟨_, rfl⟩, fun e => (by cases e)⟩) | cases h
theorem pt_split {α : Type} {R : α → Value → Prop} {a b : List α} {us : List Value} (h : Pt R (a ++ b) us) : Pt R a (us.take a.length) ∧ Pt R b (us.drop a.length) := by
  have h1 := h.take a.length
  have h2 := h.drop a.length
  rw [List.take_append_of_le_length (Nat.le_refl _), List.take_length] at h1
  rw [List.drop_append_of_le_length (Nat.le_refl _), List.drop_length, List.nil_append] at h2
  exact ⟨h1, h2⟩
abbrev EqGoal (P : Program) (w : World) (N : Nat → Prop) (D0 : Nat) (t : TypeId) (zs : List D) : Prop := ∀ (l m : List D) (cs ds : List Value) (K : Bool → Prop), Pt (DRel w N) l cs → Pt (DRel w N) m ds → kindL zs l → kindL zs m → eqL l m K →
  ∃ b, K b ∧ (Op.equalIn D0 t (valT P t cs) (valT P t ds)).run P w = .ok b w
theorem eqFs_ok {r : TypeId → Option (List D)} {D0 : Nat} (ih : ∀ t zs, r t = some zs → EqGoal P w N D0 t zs ∧ (∃ d, P.underlying t = some d) ∧ (aggT P t = false → zs.length = 1)) (cs ds : List Value) : ∀ (fs : List Field) (o : Nat) (zs : List D) (l m : List D) (K : Bool → Prop), eqFs P r o fs = some zs →
    Pt (DRel w N) l ((cs.drop o).take zs.length) → Pt (DRel w N) m ((ds.drop o).take zs.length) → kindL zs l → kindL zs m → eqL l m K → ∃ b, K b ∧ (Op.eqFields D0 cs.toArray ds.toArray fs).run P w = .ok b w
  | [], o, zs, l, m, K, hz, hp, hq, hl, hm, hk => by
    simp only [eqFs, Option.some.injEq] at hz
    subst hz
    obtain rfl : l = [] := List.eq_nil_of_length_eq_zero (kindL_len hl)
    obtain rfl : m = [] := List.eq_nil_of_length_eq_zero (kindL_len hm)
    exact ⟨true, hk, by simp [Op.eqFields]⟩
  | f :: fs, o, zs, l, m, K, hz, hp, hq, hl, hm, hk => by
    simp only [eqFs, Option.bind_eq_some_iff] at hz
    obtain ⟨z, h1, hz⟩ := hz
    split at hz
    case isFalse => cases hz
    rename_i hc
    obtain ⟨hname, rfl, hc⟩ := hc
    obtain ⟨zs', h2, rfl⟩ := Option.map_eq_some_iff.1 hz
    obtain ⟨a, b, rfl, ka, kb⟩ := kindL_app hl
    obtain ⟨a', b', rfl, ka', kb'⟩ := kindL_app hm
    have la := kindL_len ka
    have la' := kindL_len ka'
    have lb := kindL_len kb
    have lb' := kindL_len kb'
    have len1 := hp.1
    have len2 := hq.1
    simp only [List.length_append, List.length_take, List.length_drop] at len1 len2
    obtain ⟨p1, p2⟩ := pt_split hp
    obtain ⟨q1, q2⟩ := pt_split hq
    rw [List.take_take, List.length_append, la, Nat.min_eq_left (by omega)] at p1
    rw [List.take_take, List.length_append, la', Nat.min_eq_left (by omega)] at q1
    rw [List.drop_take, List.length_append, la, List.drop_drop, Nat.add_sub_cancel_left] at p2
    rw [List.drop_take, List.length_append, la', List.drop_drop, Nat.add_sub_cancel_left] at q2
    rw [eqL_app (by omega)] at hk
    obtain ⟨g, ⟨dsc, hu⟩, hone⟩ := ih f.type z h1
    obtain ⟨r0, hr, hrun⟩ := g a a' _ _ _ p1 q1 ka ka' hk
    have e1 : (part f.type cs.toArray f.offset).run P w = .ok (valT P f.type ((cs.drop f.offset).take z.length)) w := run_part hu hc hone fun e => by have := hone e; omega
    have e2 : (part f.type ds.toArray f.offset).run P w = .ok (valT P f.type ((ds.drop f.offset).take z.length)) w := run_part hu hc hone fun e => by have := hone e; omega
    simp only [Op.eqFields, if_pos hname, Sem.run_bind, e1, e2, Result.andThen_ok, hrun, Sem.run_ite]
    cases r0 with
    | true =>
      simp only [br] at hr
      simpa using eqFs_ok ih cs ds fs _ zs' b b' K h2 p2 q2 kb kb' hr
    | false => exact ⟨false, hr, by simp⟩
theorem eqItems_ok {D0 : Nat} {e : TypeId} {z : List D} (g : EqGoal P w N D0 e z) (hu : ∃ d, P.underlying e = some d) (hone : aggT P e = false → z.length = 1) (hc : P.cellsOf e = z.length) (cs ds : List Value) : ∀ (k s : Nat) (l m : List D) (K : Bool → Prop),
    Pt (DRel w N) l ((cs.drop (s * z.length)).take (k * z.length)) → Pt (DRel w N) m ((ds.drop (s * z.length)).take (k * z.length)) → kindL (List.replicate k z).flatten l → kindL (List.replicate k z).flatten m → eqL l m K →
    ∃ b, K b ∧ (Op.eqItems D0 e (P.cellsOf e) cs.toArray ds.toArray (List.range' s k)).run P w = .ok b w
  | 0, s, l, m, K, hp, hq, hl, hm, hk => by
    obtain rfl : l = [] := List.eq_nil_of_length_eq_zero (kindL_len hl)
    obtain rfl : m = [] := List.eq_nil_of_length_eq_zero (kindL_len hm)
    exact ⟨true, hk, by simp [Op.eqItems]⟩
  | k + 1, s, l, m, K, hp, hq, hl, hm, hk => by
    rw [List.replicate_succ, List.flatten_cons] at hl hm
    obtain ⟨a, b, rfl, ka, kb⟩ := kindL_app hl
    obtain ⟨a', b', rfl, ka', kb'⟩ := kindL_app hm
    have la := kindL_len ka
    have la' := kindL_len ka'
    have lb := kindL_len kb
    have lb' := kindL_len kb'
    simp only [List.length_flatten, List.map_replicate, List.sum_replicate_nat] at lb lb'
    have len1 := hp.1
    have len2 := hq.1
    have hsk : (k + 1) * z.length = z.length + k * z.length := by rw [Nat.succ_mul]; omega
    simp only [List.length_append, List.length_take, List.length_drop, hsk] at len1 len2
    obtain ⟨p1, p2⟩ := pt_split hp
    obtain ⟨q1, q2⟩ := pt_split hq
    have hss : (s + 1) * z.length = s * z.length + z.length := by rw [Nat.succ_mul]
    rw [List.take_take, la, hsk, Nat.min_eq_left (by omega)] at p1
    rw [List.take_take, la', hsk, Nat.min_eq_left (by omega)] at q1
    rw [List.drop_take, la, hsk, List.drop_drop, Nat.add_sub_cancel_left, ← hss] at p2
    rw [List.drop_take, la', hsk, List.drop_drop, Nat.add_sub_cancel_left, ← hss] at q2
    rw [eqL_app (by omega)] at hk
    obtain ⟨r0, hr, hrun⟩ := g a a' _ _ _ p1 q1 ka ka' hk
    obtain ⟨dsc, hu'⟩ := hu
    have e1 : (part e cs.toArray (s * P.cellsOf e)).run P w = .ok (valT P e ((cs.drop (s * z.length)).take z.length)) w := by rw [hc]; exact run_part hu' hc hone fun e => by have := hone e; omega
    have e2 : (part e ds.toArray (s * P.cellsOf e)).run P w = .ok (valT P e ((ds.drop (s * z.length)).take z.length)) w := by rw [hc]; exact run_part hu' hc hone fun e => by have := hone e; omega
    rw [List.range'_succ]
    simp only [Op.eqItems, Sem.run_bind, e1, e2, Result.andThen_ok, hrun, Sem.run_ite]
    cases r0 with
    | true =>
      simp only [br] at hr
      simpa using eqItems_ok g ⟨dsc, hu'⟩ hone hc cs ds k (s + 1) b b' K p2 q2 kb kb' hr
    | false => exact ⟨false, hr, by simp⟩
theorem eqZ_ok : ∀ (n : Nat) (t : TypeId) (zs : List D), eqZ P n t = some zs → ∀ d, EqGoal P w N (n + d) t zs
  | 0, t, zs, h, d => by cases h
  | n + 1, t, zs, h, d => by
    intro l m cs ds K hp hq hl hm hk
    rw [show n + 1 + d = (n + d) + 1 by omega]
    simp only [eqZ] at h
    have one1 : ∀ {x : D} {us : List Value}, Pt (DRel w N) [x] us → ∃ u, us = [u] ∧ DRel w N x u := fun hp => by
      obtain ⟨u, us, rfl, hu, hp⟩ := hp.inv
      obtain rfl := hp.nil_inv
      exact ⟨u, rfl, hu⟩
    split at h
    · rename_i k hu
      cases h
      have hv : aggT P t = false := by unfold aggT; rw [hu]
      match l, m, hl, hm with
      | [x], [y], ⟨⟨a, ha⟩, _⟩, ⟨⟨b, hb⟩, _⟩ =>
        subst ha; subst hb
        obtain ⟨u, rfl, h1⟩ := one1 hp
        obtain ⟨v, rfl, h2⟩ := one1 hq
        cases h1; cases h2
        simp only [eqL, eqD, dK, beq_self_eq_true, br] at hk
        refine ⟨decide (a = b), ?_, ?_⟩
        · cases hd : decide (a = b) <;> rw [hd] at hk <;> exact hk
        · simp only [valT, hv, List.headD_cons]
          exact run_equalIn_int w (n + d) t k k a b hu
    · rename_i hu
      cases h
      have hv : aggT P t = false := by unfold aggT; rw [hu]
      match l, m, hl, hm with
      | [x], [y], ⟨⟨a, ha⟩, _⟩, ⟨⟨b, hb⟩, _⟩ =>
        subst ha; subst hb
        obtain ⟨u, rfl, h1⟩ := one1 hp
        obtain ⟨v, rfl, h2⟩ := one1 hq
        cases h1; cases h2
        simp only [eqL, eqD, dB] at hk
        refine ⟨a == b, ?_, ?_⟩
        · cases hd : (a == b) <;> rw [hd] at hk <;> exact hk
        · simp only [valT, hv, List.headD_cons]
          exact run_equalIn_bool' w (n + d) t a b hu
    · rename_i hu
      cases h
      have hv : aggT P t = false := by unfold aggT; rw [hu]
      match l, m, hl, hm with
      | [x], [y], ⟨⟨a, ha⟩, _⟩, ⟨⟨b, hb⟩, _⟩ =>
        subst ha; subst hb
        obtain ⟨u, rfl, h1⟩ := one1 hp
        obtain ⟨v, rfl, h2⟩ := one1 hq
        cases h1; cases h2
        simp only [eqL, eqD, dS] at hk
        refine ⟨decide (a = b), ?_, ?_⟩
        · cases hd : decide (a = b) <;> rw [hd] at hk <;> exact hk
        · simp only [valT, hv, List.headD_cons]
          rw [run_equalIn_string w (n + d) t _ _ hu]
          simp only [ByteArray.toList_mk]
          congr 1
          by_cases e : a = b <;> simp [e]
    · rename_i fs hu
      split at h
      case isFalse => cases h
      rename_i hsi
      have hv : aggT P t = true := by unfold aggT; rw [hu]
      have hf : P.fieldsOf t = fs := by unfold Program.fieldsOf; rw [hu]
      have l1 := kindL_len hl
      have l2 := kindL_len hm
      have c1 : (cs.drop 0).take zs.length = cs := by rw [List.drop_zero, List.take_of_length_le (by have := hp.1; omega)]
      have c2 : (ds.drop 0).take zs.length = ds := by rw [List.drop_zero, List.take_of_length_le (by have := hq.1; omega)]
      obtain ⟨b, hb, hr⟩ := eqFs_ok (fun t zs hz => ⟨eqZ_ok n t zs hz d, eqZ_desc hz⟩) cs ds fs.toList 0 zs l m K h (by rw [c1]; exact hp) (by rw [c2]; exact hq) hl hm hk
      refine ⟨b, hb, ?_⟩
      simp only [valT, hv]
      rw [run_equalIn_struct w (n + d) t _ _ (by rw [hf]; exact hu) hsi, hf]
      exact hr
    · rename_i k e hu
      obtain ⟨z, h1, h⟩ := Option.bind_eq_some_iff.1 h
      split at h
      case isFalse => cases h
      rename_i hc
      cases h
      have hv : aggT P t = true := by unfold aggT; rw [hu]
      obtain ⟨he, hone⟩ := eqZ_desc h1
      obtain ⟨ei, hi⟩ := info_of_underlying he.choose_spec
      have l1 := kindL_len hl
      have l2 := kindL_len hm
      simp only [List.length_flatten, List.map_replicate, List.sum_replicate_nat] at l1 l2
      have c1 : (cs.drop (0 * z.length)).take (k * z.length) = cs := by rw [Nat.zero_mul, List.drop_zero, List.take_of_length_le (by have := hp.1; omega)]
      have c2 : (ds.drop (0 * z.length)).take (k * z.length) = ds := by rw [Nat.zero_mul, List.drop_zero, List.take_of_length_le (by have := hq.1; omega)]
      obtain ⟨b, hb, hr⟩ := eqItems_ok (eqZ_ok n e z h1 d) he hone hc cs ds k 0 l m K (by rw [c1]; exact hp) (by rw [c2]; exact hq) hl hm hk
      refine ⟨b, hb, ?_⟩
      simp only [valT, hv]
      rw [run_equalIn_array w (n + d) _ _ hu hi, List.range_eq_range']
      exact hr
    · cases h
/-- What TOK asks of comparing. -/
theorem tok_eq {n : Nat} {t : TypeId} {zs : List D} (hn : n ≤ 10000) (hz : eqZ P n t = some zs) (ha : aggT P t = true) (hg : P.eqGuardType P.depth t = false) (w : World) (N : Nat → Prop) (l m : List D) (cs ds : Array Value) (x y : Operand) (K : Bool → Prop) (hp : Pt (DRel w N) l cs.toList) (hq : Pt (DRel w N) m ds.toList)
    (hl : kindL zs l) (hm : kindL zs m) (hk : eqL l m K) :
    ∃ b, K b ∧ (do eqGuard .eql t x y (.agg cs) (.agg ds); binOp .eql t (.agg cs) (.agg ds)).run P w = .ok (.bool b) w ∧ (do eqGuard .neq t x y (.agg cs) (.agg ds); binOp .neq t (.agg cs) (.agg ds)).run P w = .ok (.bool (!b)) w := by
  obtain ⟨b, hb, hr⟩ := eqZ_ok n t zs hz (10000 - n) l m _ _ K hp hq hl hm hk
  rw [show n + (10000 - n) = 10000 by omega] at hr
  simp only [valT, ha, Array.toArray_toList] at hr
  refine ⟨b, hb, ?_, ?_⟩
  · simp only [Sem.run_bind, run_eqGuard_agg w .eql t x y cs ds hg, Result.andThen_ok, run_eql_struct w t cs ds, hr]
  · simp only [Sem.run_bind, run_eqGuard_agg w .neq t x y cs ds hg, Result.andThen_ok, run_neq_struct w t cs ds, hr]
end
def isOther : TK → Bool | .other => true | _ => false
def tokB (i : TypeInfo) (ti : TI) : Bool := Nat.beq i.size ti.size && Nat.beq i.bytes ti.bytes && (match i.zero with | some z => mok ti.agg ti.zero z | none => false) && !isOther ti.k && (ti.agg == isAggK ti.k) && (ti.agg || Nat.beq ti.size 1)
theorem tok_mk {P : Program} {t : TypeId} {i : TypeInfo} {ti : TI} (hi : P.info? t = some i) (hb : tokB i ti = true) (hk : KOK P t ti.k) (he : ti.eq = false ∨ eqZ P 8 t = some ti.zero ∧ aggT P t = true ∧ P.eqGuardType P.depth t = false) : TOK P t ti := by
  simp only [tokB, Bool.and_eq_true, Bool.not_eq_true', beq_iff_eq, Bool.or_eq_true] at hb
  obtain ⟨⟨⟨⟨⟨h1, h2⟩, h3⟩, h4⟩, h5⟩, h6⟩ := hb
  have ho : ti.k ≠ .other := fun e => by rw [e] at h4; cases h4
  refine ⟨⟨i, hi, Nat.eq_of_beq_eq_true h1, Nat.eq_of_beq_eq_true h2, fun _ => ?_⟩, hk, fun _ => h5, fun e => absurd e ho, fun e => ?_, fun e => ?_⟩
  · split at h3
    · rename_i z hz
      exact ⟨z, hz, fun w N => mok_rel h3 w N⟩
    · cases h3
  · rw [e] at h6
    simpa using Nat.eq_of_beq_eq_true (h6.resolve_left (by simp))
  · rcases he with he | ⟨hz, ha, hg⟩
    · rw [e] at he; cases he
    · intro w N l m cs ds x y K hp hq hl hm hk
      exact tok_eq (by omega) hz ha hg w N l m cs ds x y K hp hq hl hm hk
theorem eok_of {P : Program} {E : Env} {t : Tr TI} (h : t.All (TOK P)) (hE : E.T = t.look) : EOK P E := fun n x hx => Tr.all_look h n x (by rw [hE] at hx; exact hx)
end Go.Proofs.YtahlcbmmjfdcaaaGreatDoor.PX
