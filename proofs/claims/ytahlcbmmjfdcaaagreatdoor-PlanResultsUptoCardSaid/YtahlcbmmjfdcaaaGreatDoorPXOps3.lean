/- PX, part 5: slicing, maps that are asked, conversions. -/
import Derived.Test.YtahlcbmmjfdcaaaGreatDoorPXOps2
import Derived.Laws.Strings2
import Derived.Laws.StructEq
import Derived.Laws.BytesArg
set_option linter.all false
namespace Go.Proofs.YtahlcbmmjfdcaaaGreatDoor.PX
set_option linter.unusedVariables false
set_option linter.unusedSimpArgs false
section
variable {P : Program} {E : Env} {w : World} {h : List Obj} {γ : Gam}
theorem extract_str (s : List UInt8) (i j : Nat) : (ByteArray.mk s.toArray).extract i j = ⟨((s.take j).drop i).toArray⟩ := by
  rw [ByteArray.extract_mk, List.drop_take]
theorem slice_str (H : EOK P E) {t : TypeId} (hu : P.underlying t = some .string) {s : List UInt8} {lo hi : Option Value} {i j : Int} (hl : Bnd lo 0 i)
    (hh : Bnd hi s.length j) (h0 : 0 ≤ i) (h1 : i ≤ j) (h2 : j ≤ s.length) :
    (Instr.sliceAt t (.string ⟨s.toArray⟩) lo hi none).run P w = .ok (.string ⟨((s.take j.toNat).drop i.toNat).toArray⟩) w := by
  have hsz : (ByteArray.mk s.toArray).size = s.length := by simp [ByteArray.size]
  simp only [Instr.sliceAt, Instr.slice, Sem.run_bind, run_underlying hu w, Result.andThen_ok, Option.isSome_none, Bool.false_eq_true, if_false, Sem.run_pure, Sem.run_ite, hsz]
  rw [run_sliceBounds (P := P) (w := w) hl hh h0 h1 h2 (Nat.le_refl _)]
  simp only [Result.andThen_ok, extract_str]
theorem slice_sl (H : EOK P E) {t e : TypeId} {te : TI} (hu : P.underlying t = some (.slice e)) (he : E.T e = some te) {a : Option Addr} {len cap : Nat} {lo hi : Option Value} {i j : Int} (hl : Bnd lo 0 i)
    (hh : Bnd hi len j) (h0 : 0 ≤ i) (h1 : i ≤ j) (h2 : j ≤ cap) (h3 : len ≤ cap) :
    (Instr.sliceAt t (.slice a len cap) lo hi none).run P w = .ok (.slice (if cap = i.toNat then a else a.map (·.add (i.toNat * te.size))) (j.toNat - i.toNat) (cap - i.toNat)) w := by
  simp only [Instr.sliceAt, Instr.slice, Sem.run_bind, run_underlying hu w, Result.andThen_ok]
  rw [run_sliceBounds (P := P) (w := w) hl hh h0 h1 h2 h3]
  simp only [Result.andThen_ok, H.size he w, Sem.run_pure]
theorem slice_sl3 (H : EOK P E) {t e : TypeId} {te : TI} (hu : P.underlying t = some (.slice e)) (he : E.T e = some te) {a : Option Addr} {len cap : Nat} {lo : Option Value} {u v : Value} {i j m : Int} {k k' : IntKind}
    (hl : Bnd lo 0 i) (hju : u = .int k j) (hv : v = .int k' m) (h0 : 0 ≤ i) (h1 : i ≤ j) (h2 : j ≤ m) (h3 : m ≤ cap) :
    (Instr.sliceAt t (.slice a len cap) lo (some u) (some v)).run P w = .ok (.slice (if m.toNat = i.toNat then a else a.map (·.add (i.toNat * te.size))) (j.toNat - i.toNat) (m.toNat - i.toNat)) w := by
  simp only [Instr.sliceAt, Instr.slice, Sem.run_bind, run_underlying hu w, Result.andThen_ok]
  rw [run_sliceBounds3 (P := P) (w := w) hl hju hv h0 h1 h2 h3]
  simp only [Result.andThen_ok, H.size he w, Sem.run_pure]
/-- A piece of a slice that is data. -/
theorem sub_data {sz n : Nat} {es : List (List D)} {f : SF} {a : Option Addr} {len cap i j : Nat} (hv : VRel w h γ (.d (.sl sz es f)) (.slice a len cap)) (hsz : sz = n ∨ es = []) (h1 : i ≤ j) (h2 : j ≤ es.length) {cap' : Nat} (hc : j - i ≤ cap') {f' : SF}
    (hf : f' = .any ∨ f' = .tight ∧ cap' = j - i) {a' : Option Addr} (ha : i < j → a' = a.map (·.add (i * n))) :
    VRel w h γ (.d (.sl sz ((es.take j).drop i) f')) (.slice a' (j - i) cap') := by
  cases hv with
  | sl us g1 g2 g3 g4 g5 g6 g7 =>
    have hlen : ((es.take j).drop i).length = j - i := by simp; omega
    rw [← hlen]
    refine DRel.sl (us := (us.take (j * sz)).drop (i * sz)) (by omega) (fun ht => ?_) (fun hn => ?_) ((g4.take j).drop i) (fun hne => ?_) ?_ (fun k d u hd hu => ?_)
    · rcases hf with hf | ⟨_, hf⟩
      · rw [hf] at ht; cases ht
      · rw [hf, hlen]
    · rcases hf with hf | ⟨hf, _⟩ <;> rw [hf] at hn <;> cases hn
    · have hlt : i < j := by
        rcases Nat.lt_or_ge i j with h' | h'
        · exact h'
        · exact absurd (List.eq_nil_of_length_eq_zero (by omega)) hne
      have hes : es ≠ [] := fun e => by simp [e] at hne
      obtain ⟨b, o, rfl, hb, hcell⟩ := g5 hes
      have hszn : sz = n := hsz.resolve_right hes
      subst hszn
      refine ⟨b, o + i * sz, by rw [ha hlt]; simp [addr_add], hb, fun k u hk => ?_⟩
      rw [List.getElem?_drop, List.getElem?_take] at hk
      split at hk
      · have := hcell _ u hk
        rwa [Nat.add_assoc]
      · simp at hk
    · rw [((g4.take j)).flatten_drop, g4.flatten_take]
      simp [g6]
    · rw [((g4.take j)).flatten_drop, g4.flatten_take, List.getElem?_drop, List.getElem?_take] at hd
      rw [List.getElem?_drop, List.getElem?_take] at hu
      split at hd
      · rename_i hlt
        rw [if_pos hlt] at hu
        exact g7 _ d u hd hu
      · simp at hd
theorem slice_ok (H : EOK P E) (HH : HRel w h γ) {t : TypeId} {v : AV} {u : Value} {lo hi mx : Option AV} {lo' hi' mx' : Option Value} {K : AV → Prop} (hv : VRel w h γ v u) (hlo : OptRel w h γ lo lo') (hhi : OptRel w h γ hi hi') (hmx : OptRel w h γ mx mx')
    (hk : sliceP E t v lo hi mx h K) : PureOK P w h γ (Instr.sliceAt t u lo' hi' mx') K := by
  unfold sliceP at hk
  split at hk
  · rename_i hkd
    have hu : P.underlying t = some .string := H.kd hkd
    split at hk
    · obtain rfl : mx' = none := by cases mx' with | none => rfl | some _ => exact hmx.elim
      obtain ⟨s, _, rfl, hk⟩ := asS_inv hk hv
      obtain ⟨j, hk, hj⟩ := bound_ok hhi hk
      obtain ⟨i, hk, hi⟩ := bound_ok hlo hk
      obtain ⟨⟨h0, h1, h2⟩, hk⟩ := gd_d hk
      exact ⟨_, _, slice_str H hu hi hj h0 h1 h2, hk, DRel.str⟩
    · exact hk.elim
  · rename_i e hkd
    have hu : P.underlying t = some (.slice e) := H.kd hkd
    split at hk
    · exact hk.elim
    rename_i te hte
    split at hk
    · rename_i x
      unfold dSl at hk
      split at hk
      case h_2 => exact hk.elim
      rename_i sz es f
      obtain ⟨hsz, hq⟩ := okSz_inv hk
      obtain ⟨a, cap, rfl, hel⟩ := elems_at hv
      have hcap : es.length ≤ cap := by cases hv; assumption
      split at hq
      · obtain rfl : mx' = none := by cases mx' with | none => rfl | some _ => exact hmx.elim
        obtain ⟨j, hq, hj⟩ := bound_ok hhi hq
        obtain ⟨i, hq, hi⟩ := bound_ok hlo hq
        obtain ⟨⟨h0, h1, h2⟩, hq⟩ := gd_d hq
        refine ⟨_, _, slice_sl H hu hte hi hj h0 h1 (by omega) hcap, hq, sub_data hv hsz (by omega) (by omega) (by omega) (.inl rfl) (fun hlt => ?_)⟩
        rw [if_neg (by omega)]
      · split at hq
        · exact hq.elim
        rename_i m0 _ hi0
        cases mx' with
        | none => exact hmx.elim
        | some m' =>
          cases hi' with
          | none => exact hhi.elim
          | some j' =>
            obtain ⟨k, m, _, rfl, hq⟩ := asI_inv hq hmx
            obtain ⟨kj, j, _, rfl, hq⟩ := asI_inv hq hhi
            obtain ⟨i, hq, hi⟩ := bound_ok hlo hq
            obtain ⟨⟨h0, h1, h2, h3⟩, hq⟩ := gd_d hq
            rcases br_inv hq with ⟨hjm, hq2⟩ | ⟨_, hq2⟩
            · have hjm : j = m := by simpa using hjm
              subst hjm
              refine ⟨_, _, slice_sl3 H hu hte hi rfl rfl h0 h1 h2 (by omega), hq2, sub_data hv hsz (by omega) (by omega) (by omega) (.inr ⟨rfl, by omega⟩) (fun hlt => ?_)⟩
              rw [if_neg (by omega)]
            · exact ⟨_, _, slice_sl3 H hu hte hi rfl rfl h0 h1 h2 (by omega), hq2, DRel.undef rfl⟩
    · rename_i id ver
      split at hk
      · rename_i sz es v ho
        obtain ⟨hb, hq⟩ := br_t hk
        simp only [Bool.and_eq_true] at hb
        obtain ⟨ho', hr⟩ := row_of hv ho hb.1
        obtain ⟨a, cap, rfl, _⟩ := rowV_slice hr
        have hcap : es.length ≤ cap := by
          unfold RowV at hr
          split at hr
          · obtain ⟨_, h2, _, h3⟩ := hr; omega
          · obtain ⟨_, a', cap', h2, h3, _⟩ := hr; simp at h2; omega
        split at hq
        · obtain rfl : mx' = none := by cases mx' with | none => rfl | some _ => exact hmx.elim
          obtain ⟨j, hq, hj⟩ := bound_ok hhi hq
          obtain ⟨i, hq, hi⟩ := bound_ok hlo hq
          obtain ⟨⟨h0, h1, h2⟩, hq⟩ := gd_d hq
          refine ⟨_, _, slice_sl H hu hte hi hj h0 h1 (by omega) hcap, hq, rfl, hv.2.1, fun sz' es' k' ho2 => ?_⟩
          rw [ho'] at ho2
          simp at ho2
          obtain ⟨rfl, rfl, rfl⟩ := ho2
          have hsz := Nat.eq_of_beq_eq_true hb.2
          refine ⟨Nat.le_refl _, fun _ => ?_⟩
          unfold RowV at hr ⊢
          split at hr
          · obtain ⟨_, h3, a', h4⟩ := hr
            simp at h4
            obtain ⟨rfl, h5, rfl⟩ := h4
            have : es.length = 0 := by omega
            rw [if_pos (by omega)]
            exact ⟨by omega, by omega, a, by congr 1 <;> omega⟩
          · obtain ⟨g1, a', cap', g2, g3, g4, g5, g6⟩ := hr
            simp at g2
            obtain ⟨rfl, rfl⟩ := g2
            refine ⟨by omega, _, _, rfl, by omega, by omega, fun hlt => ?_, by rw [show i.toNat + (cap - i.toNat) = 0 + cap by omega]; exact g6⟩
            rw [if_neg (by omega), g5 (by omega)]
            simp [addr_add, hsz]
        · split at hq
          · exact hq.elim
          cases mx' with
          | none => exact hmx.elim
          | some m' =>
            cases hi' with
            | none => exact hhi.elim
            | some j' =>
              obtain ⟨k, m, _, rfl, hq⟩ := asI_inv hq hmx
              obtain ⟨kj, j, _, rfl, hq⟩ := asI_inv hq hhi
              obtain ⟨i, hq, hi⟩ := bound_ok hlo hq
              obtain ⟨⟨h0, h1, h2, h3⟩, hq⟩ := gd_d hq
              exact ⟨_, _, slice_sl3 H hu hte hi rfl rfl h0 h1 h2 (by omega), hq, DRel.undef rfl⟩
      · exact hk.elim
    · rename_i id ver off len
      split at hk
      · rename_i sz es v ho
        obtain ⟨hb, hq⟩ := br_t hk
        simp only [Bool.and_eq_true] at hb
        obtain ⟨ho', hr⟩ := rows_of hv ho hb.1
        obtain ⟨a, cap, rfl, _⟩ := rowV_slice hr
        have hcap : len ≤ cap ∧ es.length ≤ off + cap := by
          unfold RowV at hr
          split at hr
          · rename_i hg
            obtain ⟨h1, h2, _, h3⟩ := hr
            have hO := HH.obj _ _ ho'
            have : es = [] := by have := hO.2; rw [hg] at this; exact this
            subst this
            simp; omega
          · obtain ⟨_, a', cap', h2, h3, h4, _⟩ := hr; simp at h2; omega
        split at hq
        · obtain rfl : mx' = none := by cases mx' with | none => rfl | some _ => exact hmx.elim
          obtain ⟨j, hq, hj⟩ := bound_ok hhi hq
          obtain ⟨i, hq, hi⟩ := bound_ok hlo hq
          obtain ⟨⟨h0, h1, h2⟩, hq⟩ := gd_d hq
          refine ⟨_, _, slice_sl H hu hte hi hj h0 h1 (by omega) hcap.1, hq, rfl, hv.2.1, fun sz' es' k' ho2 => ?_⟩
          rw [ho'] at ho2
          simp at ho2
          obtain ⟨rfl, rfl, rfl⟩ := ho2
          have hsz := Nat.eq_of_beq_eq_true hb.2
          refine ⟨Nat.le_refl _, fun _ => ?_⟩
          unfold RowV at hr ⊢
          split at hr
          · obtain ⟨h3, h4, a', h5⟩ := hr
            simp at h5
            obtain ⟨rfl, h6, rfl⟩ := h5
            rw [if_pos (by omega)]
            exact ⟨by omega, by omega, a, by congr 1 <;> omega⟩
          · obtain ⟨g1, a', cap', g2, g3, g4, g5, g6⟩ := hr
            simp at g2
            obtain ⟨rfl, rfl⟩ := g2
            refine ⟨by omega, _, _, rfl, by omega, by omega, fun hlt => ?_, by rw [show off + i.toNat + (cap - i.toNat) = off + cap by omega]; exact g6⟩
            rw [if_neg (by omega), g5 (by omega)]
            simp [addr_add, hsz, Nat.add_mul, Nat.add_assoc]
        · exact hq.elim
      · exact hk.elim
    · exact hk.elim
  · exact hk.elim

/-! ### Maps that are asked -/
def kdesc : Option IntKind → TypeDesc | none => .string | some k => .int k
theorem keyKind_inv (H : EOK P E) {kt : TypeId} {kk : Option IntKind} (hk : keyKind E kt = some kk) : P.underlying kt = some (kdesc kk) := by
  unfold keyKind at hk
  split at hk
  · rename_i hkd; simp at hk; subst hk; exact H.kd hkd
  · rename_i q hkd; simp at hk; subst hk; exact H.kd hkd
  · simp at hk
theorem onKey_inv {kk : Option IntKind} {v : AV} {u : Value} {K : D → Prop} (hv : VRel w h γ v u) (hk : onKey kk v K) : ∃ k, K k ∧ KeyV k u ∧ SameK kk k := by
  unfold onKey at hk
  split at hk
  · obtain ⟨s, _, rfl, hk⟩ := asS_inv hk hv
    exact ⟨_, hk, rfl, s, rfl⟩
  · obtain ⟨n, _, rfl, hk⟩ := asK_inv hk hv
    exact ⟨_, hk, rfl, n, rfl⟩
theorem kkEq_inv {a b : Option IntKind} (hk : kkEq a b = true) : a = b := by
  unfold kkEq at hk
  split at hk
  · rfl
  · simpa using hk
  · cases hk
theorem key_val {kk : Option IntKind} {k : D} {u : Value} (hs : SameK kk k) (hu : KeyV k u) : match kk with | none => ∃ s, u = .string s | some q => ∃ n, u = .int q n := by
  cases kk with
  | none => obtain ⟨s, rfl⟩ := hs; exact ⟨_, hu⟩
  | some q => obtain ⟨n, rfl⟩ := hs; exact ⟨_, hu⟩
theorem checkKey_ok {kt : TypeId} {kk : Option IntKind} {k : D} {u : Value} {b : Bool} (hd : P.underlying kt = some (kdesc kk)) (hs : SameK kk k) (hu : KeyV k u) : (Instr.checkKey b 10000 kt u).run P w = .ok () w := by
  obtain ⟨n, hn⟩ : ∃ n, (10000 : Nat) = n + 1 := ⟨9999, rfl⟩
  rw [hn]
  have := key_val hs hu
  cases kk with
  | none => obtain ⟨s, rfl⟩ := this; simp only [Instr.checkKey, Sem.run_bind, run_underlying hd w, Result.andThen_ok, kdesc]; rfl
  | some q => obtain ⟨s, rfl⟩ := this; simp only [Instr.checkKey, Sem.run_bind, run_underlying hd w, Result.andThen_ok, kdesc]; rfl
theorem str_inj {a b : List UInt8} : (ByteArray.mk a.toArray = ByteArray.mk b.toArray) ↔ a = b := by
  constructor
  · intro e
    have := congrArg (fun x => x.data.toList) e
    simpa using this
  · rintro rfl; rfl
theorem same_ok {kk : Option IntKind} {k k' : D} {u u' : Value} (hs : SameK kk k) (hu : KeyV k u) (hs' : SameK kk k') (hu' : KeyV k' u') :
    ∃ b, Instr.sameNow (kdesc kk) u u' = some b ∧ keyEq k k' = b ∧ (b = true → k = k' ∧ u = u') := by
  cases kk with
  | none =>
    obtain ⟨s, rfl⟩ := hs
    obtain ⟨s', rfl⟩ := hs'
    simp only [KeyV] at hu hu'
    subst hu; subst hu'
    refine ⟨decide (s = s'), ?_, rfl, fun e => by simp at e; subst e; exact ⟨rfl, rfl⟩⟩
    simp only [Instr.sameNow, kdesc, Option.some.injEq, beq_toListBytes, ByteArray.toList_mk]
    by_cases e : s = s' <;> simp [e]
  | some q =>
    obtain ⟨n, rfl⟩ := hs
    obtain ⟨n', rfl⟩ := hs'
    simp only [KeyV] at hu hu'
    subst hu; subst hu'
    refine ⟨decide (n = n'), ?_, rfl, fun e => by simp at e; subst e; exact ⟨rfl, rfl⟩⟩
    simp only [Instr.sameNow, kdesc, if_true]
    rfl
theorem findNow_ok {kk : Option IntKind} {k : D} {u : Value} (hs : SameK kk k) (hu : KeyV k u) {N : Nat → Prop} {ag : Bool} : ∀ {es : List (D × List D)} {ents : List MapEntry} {i : Nat}, (∀ p ∈ es, SameK kk p.1) →
    Pt (fun p (m : MapEntry) => KeyV p.1 m.key ∧ MV w N ag p.2 m.val) es ents →
    (mget k es = none ∧ Instr.findNow (kdesc kk) u ents i = some none ∧ ∀ v, mset k v es = es ++ [(k, v)]) ∨
    ∃ j p m, es[j]? = some p ∧ ents[j]? = some m ∧ mget k es = some p.2 ∧ MV w N ag p.2 m.val ∧ Instr.findNow (kdesc kk) u ents i = some (some (i + j, m.val)) ∧ m.key = u ∧ ∀ v, mset k v es = es.set j (k, v)
  | [], ents, i, _, hp => by
    obtain rfl := hp.nil_inv
    exact .inl ⟨rfl, rfl, fun _ => rfl⟩
  | p :: es, ents, i, hk, hp => by
    obtain ⟨m, ents, rfl, ⟨hk1, hv1⟩, hp⟩ := hp.inv
    have ih := findNow_ok hs hu (i := i + 1) (fun q hq => hk q (List.mem_cons_of_mem _ hq)) hp
    obtain ⟨b, h1, h2, h3⟩ := same_ok hs hu (hk p (by simp)) hk1
    cases b with
    | true => exact .inr ⟨0, p, m, rfl, rfl, by simp [mget, h2], hv1, by simp [Instr.findNow, h1], (h3 rfl).2.symm, fun v => by simp [mset, h2]⟩
    | false =>
      rcases ih with ⟨g1, g2, g3⟩ | ⟨j, q, m', g1, g2, g3, g4, g5, g6, g7⟩
      · exact .inl ⟨by simp [mget, h2, g1], by simp [Instr.findNow, h1, g2], fun v => by simp [mset, h2, g3]⟩
      · exact .inr ⟨j + 1, q, m', by simpa using g1, by simpa using g2, by simp [mget, h2, g3], g4, by simp [Instr.findNow, h1, g5]; omega, g6, fun v => by simp [mset, h2, g7]⟩
theorem EOK.zero {P : Program} {E : Env} (H : EOK P E) {t : TypeId} {ti : TI} (h : E.T t = some ti) (hz : ti.zero.length = ti.size) : ∃ z, (∀ w, (zeroValue t).run P w = .ok z w) ∧ ∀ w N, MV w N ti.agg ti.zero z := by
  obtain ⟨i, h1, h2, h3, h4⟩ := (H t ti h).info
  obtain ⟨z, hz, hm⟩ := h4 hz
  exact ⟨z, fun w => by simp only [zeroValue, typeInfo, Sem.run_bind, run_program, Result.andThen_ok, h1, hz, Sem.run_pure], hm⟩
theorem lookGo_ok {te : TI} {ok : Bool} {k : D} {es : List (D × List D)} {K : AV → Prop} {z u : Value} (hu : MV w (Ro w h γ) te.agg ((mget k es).getD te.zero) u) (hk : lookGo te ok k es K) :
    ∃ v, K v ∧ VRel w h γ v (if ok = true then .tuple #[u, .bool (mget k es).isSome] else u) := by
  unfold lookGo at hk
  have out : ∀ x : TV, TRel w h γ x u → lookOut ok (mget k es).isSome x K → ∃ v, K v ∧ VRel w h γ v (if ok = true then .tuple #[u, .bool (mget k es).isSome] else u) := by
    intro x hx hk
    cases ok with
    | true => exact ⟨_, hk, _, rfl, Pt.cons hx (Pt.cons DRel.bool Pt.nil)⟩
    | false => exact ⟨_, hk, hx⟩
  simp only at hk
  split at hk
  · rename_i ha
    rw [ha] at hu
    obtain ⟨cs, rfl, hp⟩ := hu
    obtain ⟨h3, hk⟩ := gd_t hk
    replace h3 := Nat.eq_of_beq_eq_true h3
    obtain ⟨xs, h1, h2, hk⟩ := takeP_inv hk
    obtain ⟨ys, hk, hy, _⟩ := likeL_inv hk
    have e : xs = (mget k es).getD te.zero := by
      apply List.ext_getElem?
      intro j
      by_cases hj : j < xs.length
      · rw [List.getElem?_eq_getElem hj]
        have := h2 j _ (List.getElem?_eq_getElem hj)
        rw [Nat.zero_add] at this
        exact this.symm
      · rw [List.getElem?_eq_none (by omega), List.getElem?_eq_none (by omega)]
    exact out (.agg (ys.map .d)) ⟨cs, rfl, Pt.map_left _ (hy _ _ _ (e ▸ hp))⟩ hk
  · rename_i ha
    rw [ha] at hu
    obtain ⟨x, hx, hr⟩ := hu
    obtain ⟨y, hy, hk⟩ := at_inv hk
    rw [hx] at hy
    simp at hy
    subst hy
    unfold lookOut at hk
    obtain ⟨z, hk, hz⟩ := likeOne_inv (K := fun y => lookOut ok (mget k es).isSome (.lf (.d y)) K) hk
    exact out (.lf (.d z)) (hz _ _ _ hr) hk
theorem MV.fr' {ag : Bool} {l : List D} {v : Value} {N N' : Nat → Prop} {w' : World} (hN : ∀ b, N b → N' b ∧ ∀ o, w'.cell? ⟨b, o, none⟩ = w.cell? ⟨b, o, none⟩) (hm : MV w N ag l v) : MV w' N' ag l v := by
  cases ag with
  | true => obtain ⟨cs, rfl, hp⟩ := hm; exact ⟨cs, rfl, hp.mono fun x y _ hxy => hxy.mono hN⟩
  | false => obtain ⟨x, rfl, hr⟩ := hm; exact ⟨x, rfl, hr.mono hN⟩
theorem lookup_ok (H : EOK P E) (HH : HRel w h γ) {t : TypeId} {v v' : AV} {u u' : Value} {ok : Bool} {K : AV → Prop} (hv : VRel w h γ v u) (hv' : VRel w h γ v' u') (hk : lookupP E t v v' ok h K) : PureOK P w h γ (Instr.lookup t u u' ok) K := by
  unfold lookupP at hk
  split at hk
  · rename_i kt et hkd
    have hu : P.underlying t = some (.map kt et) := H.kd hkd
    split at hk
    · rename_i te kk hte hkk
      obtain ⟨hz, hk⟩ := br_t hk
      obtain ⟨k, hk, hkv, hsk⟩ := onKey_inv hv' hk
      have hd := keyKind_inv H hkk
      obtain ⟨z, hz1, hz2⟩ := H.zero hte (Nat.eq_of_beq_eq_true hz)
      split at hk
      · rename_i id
        split at hk
        · rename_i ag kk' es ho
          obtain ⟨hb, hq⟩ := br_t hk
          simp only [Bool.and_eq_true, beq_iff_eq] at hb
          have ho' := obj_of hv.2.1 ho
          obtain ⟨b, ents, clock, hg, hb2, hsame, hp⟩ := HH.obj _ _ ho'
          obtain ⟨b', p, hg', rfl⟩ := hv.2.2 _ _ _ ho'
          rw [hg] at hg'
          simp at hg'
          obtain ⟨rfl, rfl⟩ := hg'
          have hkk' := kkEq_inv hb.2
          subst hkk'
          rcases findNow_ok hsk hkv (i := 0) hsame hp with ⟨g1, g2, _⟩ | ⟨j, q, m, g1, g2, g3, g4, g5, g6, _⟩
          · have hm : MV w (Ro w h γ) te.agg ((mget k es).getD te.zero) z := by rw [g1]; exact hz2 _ _
            obtain ⟨v, hkv2, hr⟩ := lookGo_ok (z := z) hm hq
            refine ⟨_, v, ?_, hkv2, hr⟩
            simp only [Instr.lookup, Sem.run_bind, run_underlying hu w, Result.andThen_ok, getObj, Sem.run, hb2, Sem.run_pure, checkKey_ok hd hsk hkv, Instr.findKey, run_underlying hd w, g2, hz1 w, g1, Option.isSome_none]
          · have hm : MV w (Ro w h γ) te.agg ((mget k es).getD te.zero) m.val := by rw [g3, ← hb.1]; exact g4
            obtain ⟨v, hkv2, hr⟩ := lookGo_ok (z := z) hm hq
            refine ⟨_, v, ?_, hkv2, hr⟩
            simp only [Instr.lookup, Sem.run_bind, run_underlying hu w, Result.andThen_ok, getObj, Sem.run, hb2, Sem.run_pure, checkKey_ok hd hsk hkv, Instr.findKey, run_underlying hd w, g5, g3, Option.isSome_some]
        · exact hk.elim
      · cases hv
        have hm : MV w (Ro w h γ) te.agg ((mget k []).getD te.zero) z := hz2 _ _
        obtain ⟨v, hkv2, hr⟩ := lookGo_ok (z := z) hm hk
        refine ⟨_, v, ?_, hkv2, hr⟩
        simp only [Instr.lookup, Sem.run_bind, run_underlying hu w, Result.andThen_ok, Sem.run_pure, checkKey_ok hd hsk hkv, Instr.findKey, run_underlying hd w, Instr.findNow, hz1 w, mget, Option.isSome_none]
      · exact hk.elim
    · exact hk.elim
  · exact hk.elim

/-! ### Conversions, the greatest and the least -/
theorem mmGo_ok {mx : Bool} : ∀ {vs : List AV} {us : List Value} {a : Int} {K : Int → Prop}, Pt (VRel w h γ) vs us → mmGo mx a vs K →
    ∃ n, K n ∧ (us.foldlM (if mx = true then Builtin.max2 else Builtin.min2) (.int .i64 a)).run P w = .ok (.int .i64 n) w
  | [], us, a, K, hp, hk => by
    obtain rfl := hp.nil_inv
    exact ⟨a, hk, by simp⟩
  | v :: vs, us, a, K, hp, hk => by
    obtain ⟨u, us, rfl, hr, hp2⟩ := hp.inv
    obtain ⟨b, _, rfl, hk2⟩ := asK_inv hk hr
    obtain ⟨n, hn, hrun⟩ := mmGo_ok hp2 hk2
    refine ⟨n, hn, ?_⟩
    rw [List.foldlM_cons, Sem.run_bind]
    have : ((if mx = true then Builtin.max2 else Builtin.min2) (.int .i64 a) (.int .i64 b)).run P w = .ok (.int .i64 (mmOf mx a b)) w := by
      cases mx with
      | true => simp only [if_true, Builtin.max2, Sem.run_pure, mmOf]
      | false => simp only [Bool.false_eq_true, if_false, Builtin.min2, Sem.run_pure, mmOf]
    rw [this]
    exact hrun
theorem mm_ok {mx : Bool} {vs : List AV} {us : List Value} {K : Int → Prop} (hp : Pt (VRel w h γ) vs us) (hk : mmP mx vs K) {ts : Array TypeId} {ty : TypeId} :
    ∃ n, K n ∧ ((if mx = true then Builtin.max_ else Builtin.min_) ts ty us.toArray).run P w = .ok (.int .i64 n) w := by
  cases vs with
  | nil => exact hk.elim
  | cons v vs =>
    obtain ⟨u, us, rfl, hr, hp2⟩ := hp.inv
    obtain ⟨a, _, rfl, hk2⟩ := asK_inv hk hr
    obtain ⟨n, hn, hrun⟩ := mmGo_ok (P := P) hp2 hk2
    refine ⟨n, hn, ?_⟩
    cases mx with
    | true => simpa [Builtin.max_] using hrun
    | false => simpa [Builtin.min_] using hrun
/-- What a slice holds, cell by cell. -/
def CellsAt (w : World) (a : Option Addr) (us : List Value) : Prop := us = [] ∨ ∃ b o, a = some ⟨b, o, none⟩ ∧ ∀ (k : Nat) (u : Value), us[k]? = some u → w.cell? ⟨b, o + k, none⟩ = some u
theorem viewS_cells (HH : HRel w h γ) {v : AV} {u : Value} {K : Nat → List (List D) → Prop} (hk : viewS h v K) (hv : VRel w h γ v u) :
    ∃ sz es a c us, K sz es ∧ u = .slice a es.length c ∧ Uni sz es ∧ CellsAt w a us ∧ Pt (DRel w (Ro w h γ)) es.flatten us := by
  unfold viewS at hk
  split at hk
  · unfold dSl at hk
    split at hk
    case h_2 => exact hk.elim
    cases hv with
    | sl us h1 h2 h3 h4 h5 h6 h7 =>
      rename_i sz es f a cap
      refine ⟨sz, es, a, cap, us, hk, rfl, h4, ?_, h6, h7⟩
      by_cases hne : es = []
      · subst hne; exact .inl (List.eq_nil_of_length_eq_zero (by simpa using h6.symm))
      · obtain ⟨b, o, ha, _, hc⟩ := h5 hne
        exact .inr ⟨b, o, ha, hc⟩
  · split at hk
    · rename_i ho
      obtain ⟨hb, hk⟩ := br_t hk
      obtain ⟨ho', hr⟩ := row_of hv ho hb
      obtain ⟨hU, hrow⟩ := HH.obj _ _ ho'
      unfold RowV at hr
      split at hr
      · rename_i hg
        rw [hg] at hrow
        obtain rfl : _ = [] := hrow
        obtain ⟨_, _, a, rfl⟩ := hr
        exact ⟨_, [], a, 0, [], hk, rfl, hU, .inl rfl, Pt.nil⟩
      · rename_i b p hg
        rw [hg] at hrow
        obtain ⟨cs, t, hcs, hle, hp⟩ := hrow
        obtain ⟨g1, a, cap, rfl, g2, g3, g4, g5⟩ := hr
        refine ⟨_, _, a, cap, _, hk, rfl, hU, ?_, hp⟩
        rcases Nat.eq_zero_or_pos cap with h0 | h0
        · refine .inl (List.eq_nil_of_length_eq_zero ?_)
          rw [← hp.1, hU.len, show List.length _ = 0 by omega, Nat.zero_mul]
        · refine .inr ⟨b, p, by rw [g4 h0]; simp, fun k u hk => ?_⟩
          rw [cell_of hcs]
          exact seg_get hk
    · exact hk.elim
  · split at hk
    · rename_i id ver off len _ sz es v ho
      obtain ⟨hb, hk⟩ := br_t hk
      obtain ⟨ho', hr⟩ := rows_of hv ho hb
      obtain ⟨hU, hrow⟩ := HH.obj _ _ ho'
      unfold RowV at hr
      split at hr
      · rename_i hg
        rw [hg] at hrow
        obtain rfl : es = [] := hrow
        obtain ⟨_, rfl, a, rfl⟩ := hr
        exact ⟨sz, [], a, 0, [], by simpa using hk, rfl, hU, .inl rfl, Pt.nil⟩
      · rename_i b p hg
        rw [hg] at hrow
        obtain ⟨cs, t, hcs, hle, hp⟩ := hrow
        obtain ⟨g1, a, cap, rfl, g2, g3, g4, g5⟩ := hr
        have hl : ((es.drop off).take len).length = len := by simp; omega
        have hp2 : Pt (DRel w (Ro w h γ)) ((es.drop off).take len).flatten ((((cs.toList.drop p).take (es.length * sz)).drop (off * sz)).take (len * sz)) := by
          rw [(hU.drop off).flatten_take, hU.flatten_drop]
          exact (hp.drop _).take _
        refine ⟨sz, _, a, cap, _, hk, by rw [hl], (hU.drop off).take len, ?_, hp2⟩
        rcases Nat.eq_zero_or_pos cap with h0 | h0
        · refine .inl (List.eq_nil_of_length_eq_zero ?_)
          rw [← hp2.1, ((hU.drop off).take len).len, hl, show len = 0 by omega, Nat.zero_mul]
        · refine .inr ⟨b, p + off * sz, g4 h0, fun k u hk => ?_⟩
          rw [cell_of hcs, Nat.add_assoc]
          exact seg_get (seg_get hk)
    · exact hk.elim
  · exact hk.elim
theorem conv_ok (H : EOK P E) (HH : HRel w h γ) {a b : TypeId} {v : AV} {u : Value} {K : AV → List Obj → Prop} (hv : VRel w h γ v u) (hk : convP E a b v h K) : PureOK P w h γ (convert a b u) (fun v => K v h) := by
  unfold convP at hk
  split at hk
  · rename_i q k h1 h2
    obtain ⟨k0, n, _, rfl, hk⟩ := asI_inv hk hv
    have e1 := H.kd h1
    have e2 := H.kd h2
    exact ⟨.int k (k.wrap n), _, by simp only [convert, Sem.run_bind, run_underlying e1 w, run_underlying e2 w, Result.andThen_ok, Conv.intToInt, Sem.run_pure], hk, DRel.int⟩
  · rename_i h1 h2
    obtain ⟨s, _, rfl, hk⟩ := asS_inv hk hv
    have e1 := H.kd h1
    have e2 := H.kd h2
    exact ⟨_, _, by simp only [convert, Sem.run_bind, run_underlying e1 w, run_underlying e2 w, Result.andThen_ok, Sem.run_pure], hk, DRel.str⟩
  · split at hk <;> exact hk.elim
  · rename_i e h1 h2
    have hs := H.kd h1
    have hd := H.kd h2
    split at hk
    · rename_i he
      have he := H.kd he
      obtain ⟨sz, es, a, c, us, ⟨s, hes, hk⟩, rfl, hU, hc, hp⟩ := viewS_cells HH hk hv
      refine ⟨.string ⟨s.toArray⟩, _, ?_, hk, DRel.str⟩
      have hlen : es.length = s.length := by rw [hes]; simp [bytesD]
      have hflat : es.flatten = s.map fun b => D.int .u8 b.toNat := by rw [hes]; clear hes hlen hp hU hk; induction s with | nil => rfl | cons b s ih => simp [bytesD] at ih ⊢; exact ih
      have hus : us = s.map fun b => Value.int .u8 b.toNat := by
        apply List.ext_getElem?
        intro j
        have hl : us.length = s.length := by rw [← hp.1, hflat]; simp
        by_cases hj : j < s.length
        · have h3 : es.flatten[j]? = some (D.int .u8 s[j].toNat) := by rw [hflat]; simp [hj]
          have h4 := hp.2 j _ _ h3 (List.getElem?_eq_getElem (show j < us.length by omega))
          rw [List.getElem?_eq_getElem (show j < us.length by omega)]
          generalize us[j]'(by omega) = q at h4
          cases h4
          simp [hj]
        · rw [List.getElem?_eq_none (by omega), List.getElem?_eq_none (by simp; omega)]
      have hstr : strOfNums (s.map fun b => (b.toNat : Int)) = ⟨s.toArray⟩ := by
        simp only [strOfNums]
        congr 1
        simp [List.map_map, Function.comp_def]
      rcases hc with h0 | ⟨b, o, rfl, hc⟩
      · have hs0 : s = [] := by rw [h0] at hus; exact (List.map_eq_nil_iff.1 hus.symm)
        subst hs0
        have : es.length = 0 := hlen
        rw [this]
        cases a with
        | none => exact run_convert_bytes_nil w a e hs he 0 c b hd
        | some ad =>
          rw [run_convert_bytes_string w _ _ e _ 0 c hs he hd]
          simp [Conv.bytesToString, loadCells, loadCellsFrom]
          rfl
      · rw [← hstr, hlen]
        refine run_convert_bytes_arg w _ e hs he b o s.length c _ (by simp) (fun i hi => ?_) _ hd
        refine hc i _ ?_
        rw [hus]
        simp [hi, List.getD_eq_getElem?_getD]
    · exact hk.elim
  · exact hk.elim
end
end Go.Proofs.YtahlcbmmjfdcaaaGreatDoor.PX
