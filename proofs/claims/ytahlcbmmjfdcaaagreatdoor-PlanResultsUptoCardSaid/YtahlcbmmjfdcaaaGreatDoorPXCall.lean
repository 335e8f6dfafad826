/- PX, part 12: calls. -/
import Derived.Test.YtahlcbmmjfdcaaaGreatDoorPXRen
set_option linter.all false
namespace Go.Proofs.YtahlcbmmjfdcaaaGreatDoor.PX
set_option linter.unusedVariables false
set_option linter.unusedSimpArgs false
section
variable {P : Program} {E : Env} {w : World} {h : List Obj} {γ : Gam}

/-- A call by its function's number answers so. -/
def CalK (P : Program) (g : FuncId) (vs : Array Value) (w : World) (R : Value → World → Prop) : Prop :=
  match (callFunc g vs).run P w with
  | .ok (.value v) w' => R v w'
  | .ok (.enter f args) w1 => Calls P f args w1 fun e w' => ∃ v, e = .returned v ∧ R v w'
  | .ok (.row row args) w1 => Rows P row args w1 R
  | _ => False
theorem Calls.mono' {f : FuncId} {args : Array Value} {w : World} {R R' : Ending → World → Prop} (hc : Calls P f args w R) (hr : ∀ e w', R e w' → R' e w') : Calls P f args w R' :=
  fun cs => let ⟨e, w', fr, h1, h2⟩ := hc cs; ⟨e, w', fr, hr _ _ h1, h2⟩
theorem CalK.mono {g : FuncId} {vs : Array Value} {R R' : Value → World → Prop} (hc : CalK P g vs w R) (hr : ∀ v w', R v w' → R' v w') : CalK P g vs w R' := by
  unfold CalK at *
  split at hc
  · exact hr _ _ hc
  · exact Calls.mono' hc fun e w' ⟨v, h1, h2⟩ => ⟨v, h1, hr _ _ h2⟩
  · exact hc.mono hr
  · exact hc.elim
/-- What the table says of the functions that are called, they do. -/
def CalOK (P : Program) (E : Env) (cal : Cal) : Prop := ∀ g args h K, cal g args h K → ∀ w γ (vs : List Value), HRel w h γ → GRel E w (Ro w h γ) → (∀ o ∈ h, verO o = 0) → Pt (TRel w h γ) args vs →
  CalK P g vs.toArray w fun v w' => ∃ res h' γ', K res h' ∧ VRel w' h' γ' (retV res) v ∧ Step w h γ w' h' γ'

/-! ### Objects that are lent -/
theorem kill_len : ∀ {ids : List Nat} {h : List Obj}, (kill h ids).length = h.length
  | [], _ => rfl
  | i :: ids, h => by
    have := kill_len (ids := ids) (h := h.set i .dead)
    simpa [kill] using this
theorem kill_get : ∀ {ids : List Nat} {h : List Obj} (i : Nat), (kill h ids)[i]? = if i ∈ ids then h[i]?.map fun _ => .dead else h[i]?
  | [], _, _ => by simp [kill]
  | k :: ids, h, i => by
    have h0 := kill_get (ids := ids) (h := h.set k .dead) i
    have h2 : (h.set k .dead)[i]? = if i = k then h[i]?.map fun _ => .dead else h[i]? := by
      rw [List.getElem?_set]
      by_cases h2 : k = i
      · subst h2
        rw [if_pos rfl, if_pos rfl]
        by_cases hl : k < h.length
        · rw [if_pos hl, List.getElem?_eq_getElem hl]; rfl
        · rw [if_neg hl, List.getElem?_eq_none (by omega)]; rfl
      · rw [if_neg h2, if_neg fun e => h2 e.symm]
    have e : kill h (k :: ids) = kill (h.set k .dead) ids := rfl
    rw [e, h0, h2]
    by_cases h1 : i ∈ ids
    · rw [if_pos h1, if_pos (List.mem_cons_of_mem _ h1)]
      split
      · cases h[i]? <;> rfl
      · rfl
    · rw [if_neg h1]
      by_cases h3 : i = k
      · subst h3; rw [if_pos rfl, if_pos List.mem_cons_self]
      · rw [if_neg h3, if_neg fun hm => (List.mem_cons.1 hm).elim h3 h1]
theorem kill_step : ∀ {ids : List Nat} {h : List Obj} (HH : HRel w h γ), Step w h γ w (kill h ids) γ
  | [], h, HH => Step.refl HH
  | k :: ids, h, HH => by
    have st := Step.drop HH k
    exact st.trans (kill_step (ids := ids) st.rel)
theorem wr_kill {ids : List Nat} {b : Nat} (hw : Wr (kill h ids) γ b) : ∃ i o p, i ∉ ids ∧ h[i]? = some o ∧ o.isDead = false ∧ γ i = some (b, p) := by
  obtain ⟨i, o, p, hi, hd, hg⟩ := hw
  rw [kill_get] at hi
  split at hi
  · obtain ⟨x, _, rfl⟩ := Option.map_eq_some_iff.1 hi
    cases hd
  · rename_i hn; exact ⟨i, o, p, hn, hi, hd, hg⟩
theorem kill_ro {ids ids' : List Nat} (hs : ∀ i ∈ ids, i ∈ ids') {b : Nat} (hb : Ro w (kill h ids) γ b) : Ro w (kill h ids') γ b := by
  refine ⟨hb.1, fun hw => hb.2.1 ?_, hb.2.2⟩
  obtain ⟨i, o, p, hi, ho, hd, hg⟩ := wr_kill hw
  exact ⟨i, o, p, by rw [kill_get, if_neg fun hm => hi (hs i hm)]; exact ho, hd, hg⟩
theorem conv_kill (HH : HRel w h γ) {x : Lf} {u : Value} {lent : List Nat} (hl : ∀ i ∈ convIds x, i ∈ lent) (hx : LRel w h γ x u) : LRel w (kill h lent) γ (convL h x) u := by
  have old : convL h x = x → LRel w (kill h lent) γ (convL h x) u := fun e => by rw [e]; exact hx.move (kill_step HH).fr (kill_step HH).evo
  have new : ∀ y, convL h x = .d y → LRel w (kill h lent) γ (convL h x) u := fun y e => by
    have h1 := (conv_rel HH hx e).1
    rw [e]
    exact DRel.mono (fun b hb => ⟨kill_ro hl hb, fun _ => rfl⟩) h1
  have data : (∃ y, convL h x = .d y) → LRel w (kill h lent) γ (convL h x) u := fun ⟨y, e⟩ => new y e
  cases x with
  | rw id ver =>
    refine data ?_
    simp only [convL]
    split
    · rename_i v _; cases Nat.beq v ver <;> exact ⟨_, rfl⟩
    · exact ⟨_, rfl⟩
  | rws id ver off len =>
    refine data ?_
    simp only [convL]
    split
    · rename_i v _; cases Nat.beq v ver <;> exact ⟨_, rfl⟩
    · exact ⟨_, rfl⟩
  | _ => exact old rfl
theorem convT_kill (HH : HRel w h γ) {t : TV} {u : Value} {lent : List Nat} (hl : ∀ i ∈ convIdsT t, i ∈ lent) (hx : TRel w h γ t u) : TRel w (kill h lent) γ (convT h t) u := by
  cases t with
  | lf x => exact conv_kill HH hl hx
  | agg l =>
    obtain ⟨cs, rfl, hp⟩ := hx
    exact ⟨cs, rfl, Pt.map_left _ (hp.mono fun x y hx hxy => conv_kill HH (fun i hi => hl i (List.mem_flatMap.2 ⟨x, hx, hi⟩)) hxy)⟩
theorem lend_ok (HH : HRel w h γ) {lent : List Nat} {rw' : List Nat} : ∀ {args : List TV} {vs : List Value} {i : Nat}, (∀ k ∈ lentIds rw' i args, k ∈ lent) → Pt (TRel w h γ) args vs → Pt (TRel w (kill h lent) γ) (lend h rw' i args) vs
  | [], vs, i, _, hp => by obtain rfl := hp.nil_inv; exact Pt.nil
  | t :: args, vs, i, hl, hp => by
    obtain ⟨v, vs, rfl, hv, hp⟩ := hp.inv
    refine Pt.cons ?_ (lend_ok HH (fun k hk => hl k (by simp [lentIds, hk])) hp)
    cases hb : rw'.any (Nat.beq i) with
    | true => exact hv.move (kill_step HH).fr (kill_step HH).evo
    | false => exact convT_kill HH (fun k hk => hl k (by simp [lentIds, hb, hk])) hv

/-! ### Behind the call -/
theorem back_len : ∀ {ids : List Nat} {os h : List Obj}, (back h ids os).length = h.length
  | [], os, h => by cases os <;> rfl
  | i :: ids, [], h => rfl
  | i :: ids, o :: os, h => by
    have := back_len (ids := ids) (os := os) (h := h.set i o)
    simpa [back] using this
theorem back_other : ∀ {ids : List Nat} {os h : List Obj} {i : Nat}, i ∉ ids → (back h ids os)[i]? = h[i]?
  | [], os, h, i, _ => by cases os <;> rfl
  | k :: ids, [], h, i, _ => rfl
  | k :: ids, o :: os, h, i, hi => by
    have := back_other (ids := ids) (os := os) (h := h.set k o) (i := i) fun hm => hi (List.mem_cons_of_mem _ hm)
    rw [show back h (k :: ids) (o :: os) = back (h.set k o) ids os from rfl, this, List.getElem?_set, if_neg fun e => hi (by subst e; exact List.mem_cons_self)]
theorem back_at : ∀ {ids : List Nat} {os h : List Obj} {k i : Nat} {o : Obj}, ids.Nodup → (∀ j ∈ ids, j < h.length) → ids[k]? = some i → os[k]? = some o → (back h ids os)[i]? = some o
  | [], os, h, k, i, o, _, _, hk, _ => by simp at hk
  | j :: ids, [], h, k, i, o, _, _, _, ho => by simp at ho
  | j :: ids, o' :: os, h, k, i, o, hn, hl, hk, ho => by
    rw [show back h (j :: ids) (o' :: os) = back (h.set j o') ids os from rfl]
    obtain ⟨hn1, hn2⟩ := List.nodup_cons.1 hn
    cases k with
    | zero =>
      simp at hk ho
      subst hk; subst ho
      rw [back_other hn1, List.getElem?_set, if_pos rfl, if_pos (hl _ List.mem_cons_self)]
    | succ k => exact back_at hn2 (fun m hm => by rw [List.length_set]; exact hl m (List.mem_cons_of_mem _ hm)) (by simpa using hk) (by simpa using ho)
theorem packR_at {h3 : List Obj} {ρ ν : Nat → Nat} {j : Nat} {o : Obj} (ho : h3[j]? = some o) : (packR h3 ρ ν (List.range h3.length))[j]? = some (renO h3 ρ ν j o) := by
  have hl := (List.getElem?_eq_some_iff.1 ho).1
  simp only [packR, List.getElem?_map, List.getElem?_range hl, Option.map_some, getD_of ho]
theorem packR_len {h3 : List Obj} {ρ ν : Nat → Nat} : (packR h3 ρ ν (List.range h3.length)).length = h3.length := by simp [packR]
theorem getD_lt' {l : List Nat} {j d : Nat} (hj : j < l.length) : l[j]? = some (l.getD j d) := by rw [List.getD_eq_getElem?_getD, List.getElem?_eq_getElem hj]; rfl
theorem refs_lt {x : Lf} {u : Value} (hx : LRel w h γ x u) : ∀ i ∈ refsL x, i < h.length := by
  intro i hi
  cases x with
  | d x => simp [refsL] at hi
  | rop l off => simp [refsL] at hi
  | ptr id off => simp [refsL] at hi; subst hi; exact hx.2.1
  | rptr id ver k off => simp [refsL] at hi; subst hi; exact hx.2.1
  | rw id ver => simp [refsL] at hi; subst hi; exact hx.2.1
  | rws id ver off len => simp [refsL] at hi; subst hi; exact hx.2.1
  | map id => simp [refsL] at hi; subst hi; exact hx.2.1
  | fn f caps =>
    obtain ⟨vs, rfl, _, hp⟩ := hx
    obtain ⟨k, hk⟩ := List.getElem?_of_mem (show i ∈ caps from hi)
    obtain ⟨y, hy, hr⟩ := hp.get hk
    exact hr.1
theorem refsT_lt {x : TV} {u : Value} (hx : TRel w h γ x u) : ∀ i ∈ refsT x, i < h.length := by
  cases x with
  | lf x => exact refs_lt hx
  | agg l =>
    obtain ⟨cs, rfl, hp⟩ := hx
    intro i hi
    obtain ⟨y, hy, hyi⟩ := List.mem_flatMap.1 hi
    obtain ⟨k, hk⟩ := List.getElem?_of_mem hy
    obtain ⟨z, hz, hr⟩ := hp.get hk
    exact refs_lt hr i hyi
theorem refsO_lt {i : Nat} {o : Obj} (ho : ORel w h γ i o) : ∀ j ∈ refsO o, j < h.length := by
  cases o with
  | cells l =>
    obtain ⟨b, cs, t, _, _, hp⟩ := ho
    intro i hi
    obtain ⟨y, hy, hyi⟩ := List.mem_flatMap.1 hi
    obtain ⟨k, hk⟩ := List.getElem?_of_mem hy
    obtain ⟨z, hz, hr⟩ := hp.get hk
    exact refs_lt hr i hyi
  | _ => intro j hj; simp [refsO] at hj
theorem retV_one (t : TV) : retV [t] = .one t := rfl
theorem retV_rel {w' : World} {h3 h4 : List Obj} {γ3 γ4 : Gam} {F : TV → TV} {res : List TV} {v : Value} (hF : ∀ t ∈ res, ∀ u, TRel w' h3 γ3 t u → TRel w' h4 γ4 (F t) u) (hv : VRel w' h3 γ3 (retV res) v) : VRel w' h4 γ4 (retV (res.map F)) v := by
  match res, hF, hv with
  | [], _, hv =>
    obtain ⟨vs, rfl, hp⟩ := hv
    exact ⟨vs, rfl, by rw [hp.nil_inv]; exact Pt.nil⟩
  | [t], hF, hv => exact hF t (by simp) v hv
  | t :: t' :: l, hF, hv =>
    obtain ⟨vs, rfl, hp⟩ := hv
    exact ⟨vs, rfl, Pt.map_left F (hp.mono fun x y hx hxy => hF x hx y hxy)⟩
theorem oe_merge {w' : World} {γc γ3 γ4 : Gam} {k i : Nat} {o o' : Obj} {h1 h3 : List Obj} {ρ0 ν0 ρ ν : Nat → Nat} (e : OE w γc w' γ3 k (renO h1 ρ0 ν0 i o) o') (hc : γc k = γ i) (hg : γ4 i = γ3 k) (hν0 : ν0 i = 0) (hν : ν k = verO o + verO o') : OE w γ w' γ4 i o (renO h3 ρ ν k o') := by
  rcases e with e | e
  · exact .inl (by rw [dead_ren]; exact e)
  · cases o <;> cases o' <;> first | exact e.elim | skip
    · exact .inr (hg.trans (Eq.trans e hc))
    · obtain ⟨e1, e2⟩ := e
      simp only [verO] at hν
      refine .inr ⟨e1, ?_⟩
      rw [hν0] at e2
      rw [hν]
      rcases e2 with e2 | ⟨rfl, e3, e4, e5⟩
      · exact .inl (by omega)
      · exact .inr ⟨rfl, hg.trans (e3.trans hc), e4, fun b p hbp => e5 b p (hc.trans hbp)⟩
    · exact .inr (hg.trans (Eq.trans e hc))
    · exact .inr ⟨e.1, hg.trans (Eq.trans e.2 hc)⟩
    · exact .inr (hg.trans (Eq.trans e hc))
theorem merge_ok (HH : HRel w h γ) {lent ids roots : List Nat} (C : Closed (kill h lent) roots ids) (hl : ∀ i ∈ lent, i ∉ ids) {X : Nat → Prop} (hX : ∀ b, X b ↔ γ.X b ∨ ∃ j o p, j ∉ ids ∧ (kill h lent)[j]? = some o ∧ o.isDead = false ∧ γ j = some (b, p))
    {w' : World} {h3 : List Obj} {γ3 : Gam} (st : Step w (packO (kill h lent) (fun _ => 0) ids) (gPack γ ids X) w' h3 γ3) {res : List TV} {hq : List Obj} (hhq : hq = kill h lent ∨ hq = h ∧ res.all flatT = true ∧ h3.all flatO = true)
    {ρ ν : Nat → Nat} (hρ : ρ = fun j => bif Nat.blt j ids.length then ids.getD j 0 else h.length + (j - ids.length)) (hν : ν = fun j => bif Nat.blt j ids.length then verA (kill h lent) (ids.getD j 0) + verA h3 j else verA h3 j)
    {v : Value} (hv : VRel w' h3 γ3 (retV res) v) {os : List Obj} (hos : os = packR h3 ρ ν (List.range h3.length)) :
    ∃ γ4, VRel w' (back hq ids os ++ os.drop ids.length) γ4 (retV (res.map (renT h3 ρ ν))) v ∧ Step w h γ w' (back hq ids os ++ os.drop ids.length) γ4 := by
  have hcl : (packO (kill h lent) (fun _ => 0) ids).length = ids.length := pack_len
  have hm : ids.length ≤ h3.length := by rw [← hcl]; exact st.evo.len
  have hkl : (kill h lent).length = h.length := kill_len
  have hql : hq.length = h.length := by
    rcases hhq with rfl | ⟨rfl, _⟩
    · exact hkl
    · rfl
  have hol : os.length = h3.length := by rw [hos, packR_len]
  have idlt : ∀ i ∈ ids, i < h.length := fun i hi => by rw [← hkl]; exact C.lt i hi
  have hbl : (back hq ids os).length = h.length := by rw [back_len, hql]
  have osat : ∀ {j : Nat} {o : Obj}, h3[j]? = some o → os[j]? = some (renO h3 ρ ν j o) := fun ho => by rw [hos]; exact packR_at ho
  obtain ⟨γ4, hγ4⟩ : ∃ γ4 : Gam, γ4 = ⟨fun i => if i ∈ ids then γ3 (idx i ids) else if i < h.length then γ i else γ3 (ids.length + (i - h.length)), γ.X⟩ := ⟨_, rfl⟩
  obtain ⟨h4, hh4⟩ : ∃ h4, h4 = back hq ids os ++ os.drop ids.length := ⟨_, rfl⟩
  rw [← hh4]
  -- where things lie
  have rlt : ∀ {j : Nat}, j < ids.length → ids[j]? = some (ρ j) := fun {j} hj => by
    rw [hρ]
    simp only [show Nat.blt j ids.length = true from by simpa [Nat.blt_eq] using hj, cond_true]
    exact getD_lt' hj
  have rge : ∀ {j : Nat}, ids.length ≤ j → ρ j = h.length + (j - ids.length) := fun {j} hj => by
    rw [hρ]
    simp only [show Nat.blt j ids.length = false from by
      cases hb : Nat.blt j ids.length with
      | false => rfl
      | true => rw [Nat.blt_eq] at hb; omega, cond_false]
  have gρ : ∀ {j : Nat}, j < h3.length → γ4 (ρ j) = γ3 j := fun {j} hj => by
    rcases Nat.lt_or_ge j ids.length with h1 | h1
    · have h2 := rlt h1
      have h3' := List.mem_of_getElem? h2
      rw [hγ4]
      show (if ρ j ∈ ids then _ else _) = _
      rw [if_pos h3', idx_of C.nodup h2]
    · rw [hγ4, rge h1]
      have hn : ¬ (h.length + (j - ids.length)) ∈ ids := fun hm => by have := idlt _ hm; omega
      show (if h.length + (j - ids.length) ∈ ids then _ else _) = _
      rw [if_neg hn, if_neg (by omega), show ids.length + (h.length + (j - ids.length) - h.length) = j by omega]
  have oρ : ∀ {j : Nat} {o : Obj}, h3[j]? = some o → h4[ρ j]? = some (renO h3 ρ ν j o) := fun {j o} ho => by
    have hj := (List.getElem?_eq_some_iff.1 ho).1
    rw [hh4]
    rcases Nat.lt_or_ge j ids.length with h1 | h1
    · have h2 := rlt h1
      have h3' := idlt _ (List.mem_of_getElem? h2)
      rw [List.getElem?_append_left (by omega)]
      exact back_at C.nodup (fun i hi => by rw [hql]; exact idlt i hi) h2 (osat ho)
    · rw [rge h1, List.getElem?_append_right (by omega), hbl, List.getElem?_drop, show ids.length + (h.length + (j - ids.length) - h.length) = j by omega]
      exact osat ho
  have mv : ∀ {j : Nat}, j < h3.length → Moved h3 γ3 h4 γ4 ρ ν j := fun {j} hj => ⟨hj, gρ hj, oρ (getD_lt hj)⟩
  have cls : ∀ {i : Nat} {o : Obj}, h4[i]? = some o → (∃ j o3, h3[j]? = some o3 ∧ i = ρ j ∧ o = renO h3 ρ ν j o3 ∧ γ4 i = γ3 j) ∨ (i ∉ ids ∧ hq[i]? = some o ∧ γ4 i = γ i) := fun {i o} ho => by
    have ho' := ho
    rw [hh4] at ho
    by_cases hi : i ∈ ids
    · have hx := idx_at hi
      have hk := (List.getElem?_eq_some_iff.1 hx).1
      have h1 := rlt hk
      rw [hx] at h1
      have e : i = ρ (idx i ids) := Option.some.inj h1
      have h2 := getD_lt (h := h3) (show idx i ids < h3.length by omega)
      have h3' := oρ h2
      rw [← e, ho'] at h3'
      exact .inl ⟨_, _, h2, e, Option.some.inj h3', by
        have := gρ (show idx i ids < h3.length by omega)
        rwa [← e] at this⟩
    · rcases Nat.lt_or_ge i h.length with h1 | h1
      · rw [List.getElem?_append_left (by omega), back_other hi] at ho
        refine .inr ⟨hi, ho, ?_⟩
        rw [hγ4]
        show (if i ∈ ids then _ else _) = _
        rw [if_neg hi, if_pos h1]
      · rw [List.getElem?_append_right (by omega), hbl, List.getElem?_drop] at ho
        have hj := (List.getElem?_eq_some_iff.1 ho).1
        have h2 := getD_lt (h := h3) (show ids.length + (i - h.length) < h3.length by omega)
        have e : i = ρ (ids.length + (i - h.length)) := by rw [rge (by omega)]; omega
        have h3' := oρ h2
        rw [← e, ho'] at h3'
        exact .inl ⟨_, _, h2, e, Option.some.inj h3', by
          have := gρ (show ids.length + (i - h.length) < h3.length by omega)
          rwa [← e] at this⟩
  have qh : ∀ {i : Nat} {o : Obj}, hq[i]? = some o → o.isDead = false → h[i]? = some o := fun {i o} ho hd => by
    rcases hhq with rfl | ⟨rfl, _⟩
    · rw [kill_get] at ho
      split at ho
      · obtain ⟨x, _, rfl⟩ := Option.map_eq_some_iff.1 ho
        cases hd
      · exact ho
    · exact ho
  have kh : ∀ {i : Nat} {o : Obj}, (kill h lent)[i]? = some o → o.isDead = false → h[i]? = some o := fun {i o} ho hd => by
    rw [kill_get] at ho
    split at ho
    · obtain ⟨x, _, rfl⟩ := Option.map_eq_some_iff.1 ho
      cases hd
    · exact ho
  have wc : ∀ {b : Nat}, Wr (packO (kill h lent) (fun _ => 0) ids) (gPack γ ids X) b → ∃ i o p, i ∈ ids ∧ h[i]? = some o ∧ o.isDead = false ∧ γ i = some (b, p) := fun hb => by
    obtain ⟨i, o, p, hi, ho, hd, hg⟩ := wr_pack C hb
    exact ⟨i, o, p, hi, kh ho hd, hd, hg⟩
  -- what was left out keeps its block
  have out : ∀ {i : Nat} {o : Obj} {b p : Nat}, i ∉ ids → h[i]? = some o → o.isDead = false → γ i = some (b, p) → ¬ Wr (packO (kill h lent) (fun _ => 0) ids) (gPack γ ids X) b := fun hi ho hd hg hw => by
    obtain ⟨i', o', p', hi', ho', hd', hg'⟩ := wc hw
    have := HH.inj _ _ _ _ _ _ _ ho hd ho' hd' hg hg'
    subst this
    exact hi hi'
  have outB : ∀ {i : Nat} {o : Obj} {b p : Nat}, i ∉ ids → h[i]? = some o → o.isDead = false → γ i = some (b, p) → w'.heap[b]? = w.heap[b]? := fun hi ho hd hg => st.fr.block _ (HH.lt' ho hd hg) (out hi ho hd hg)
  have out3 : ∀ {i : Nat} {o : Obj} {b p : Nat}, i ∉ ids → h[i]? = some o → o.isDead = false → γ i = some (b, p) → ¬ Wr h3 γ3 b := fun hi ho hd hg hw => by
    rcases st.fr.wr _ hw with h1 | h1
    · exact out hi ho hd hg h1
    · have := HH.lt' ho hd hg; omega
  have wr3 : ∀ {j : Nat} {o3 : Obj} {b p : Nat}, h3[j]? = some o3 → o3.isDead = false → γ3 j = some (b, p) → Wr h γ b ∨ w.heap.size ≤ b := fun h1 h2 h3' => by
    rcases st.fr.wr _ ⟨_, _, _, h1, h2, h3'⟩ with hw | hw
    · obtain ⟨i, o, p, _, ho, hd, hg⟩ := wc hw
      exact .inl ⟨i, o, p, ho, hd, hg⟩
    · exact .inr hw
  have f : Fr w h γ w' h4 γ4 := by
    refine ⟨st.fr.os, st.fr.tape, st.fr.output, st.fr.size, fun b hb hn => st.fr.block b hb fun hw => ?_, ?_, by rw [hγ4]⟩
    · obtain ⟨i, o, p, _, ho, hd, hg⟩ := wc hw
      exact hn ⟨i, o, p, ho, hd, hg⟩
    · rintro b ⟨i, o, p, ho, hd, hg⟩
      rcases cls ho with ⟨j, o3, hj, rfl, rfl, hgj⟩ | ⟨hi, hoq, hgi⟩
      · rw [dead_ren] at hd
        exact wr3 hj hd (hgj ▸ hg)
      · exact .inl ⟨i, o, p, qh hoq hd, hd, hgi ▸ hg⟩
  have e : Evo w h γ w' h4 γ4 := by
    intro i o ho
    by_cases hi : i ∈ ids
    · have hx := idx_at hi
      have hk := (List.getElem?_eq_some_iff.1 hx).1
      have h1 := rlt hk
      rw [hx] at h1
      have e1 : i = ρ (idx i ids) := Option.some.inj h1
      have hk1 : (kill h lent)[i]? = some o := by rw [kill_get, if_neg fun hm => hl i hm hi]; exact ho
      have hp := pack_at (h := kill h lent) (ν := fun _ => 0) hx
      rw [getD_of hk1] at hp
      obtain ⟨o', ho', hoe⟩ := st.evo _ _ hp
      refine ⟨renO h3 ρ ν (idx i ids) o', ?_, oe_merge (γc := gPack γ ids X) (γ3 := γ3) hoe ?_ ?_ rfl ?_⟩
      · have := oρ ho'
        rwa [← e1] at this
      · show γ (ids.getD (idx i ids) 0) = γ i
        rw [List.getD_eq_getElem?_getD, hx]; rfl
      · have := gρ (show idx i ids < h3.length by omega)
        rwa [← e1] at this
      · rw [hν]
        simp only [show Nat.blt (idx i ids) ids.length = true from by simpa [Nat.blt_eq] using hk, cond_true]
        rw [List.getD_eq_getElem?_getD, hx]
        simp only [Option.getD_some, verA, getD_of hk1, getD_of ho']
    · have hlt := (List.getElem?_eq_some_iff.1 ho).1
      have hb : h4[i]? = hq[i]? := by rw [hh4, List.getElem?_append_left (by omega), back_other hi]
      have hg : γ4 i = γ i := by
        rw [hγ4]
        show (if i ∈ ids then _ else _) = _
        rw [if_neg hi, if_pos hlt]
      have same : OE w γ w' γ4 i o o := by
        by_cases hd : o.isDead = false
        · refine OE.same hg fun b p hgi n hn => ?_
          obtain ⟨cs, t, hc, hn⟩ := hn
          exact ⟨cs, t, by rw [outB hi ho hd hgi]; exact hc, hn⟩
        · exact .inl (by cases hx : o.isDead <;> simp_all)
      rcases hhq with rfl | ⟨rfl, _⟩
      · rw [kill_get] at hb
        split at hb
        · exact ⟨.dead, by rw [hb, ho]; rfl, .inl rfl⟩
        · exact ⟨o, by rw [hb, ho], same⟩
      · exact ⟨o, by rw [hb, ho], same⟩
  obtain ⟨fl, hcar, hflat⟩ : ∃ fl, Carry w' h3 γ3 h4 γ4 fl ∧ (fl = true → res.all flatT = true ∧ h3.all flatO = true) := by
    rcases hhq with hk | ⟨_, hf⟩
    · refine ⟨false, .inr fun b hb => ⟨hb.1, ?_, ?_⟩, fun h => by cases h⟩
      · rintro ⟨i, o, p, ho, hd, hg⟩
        rcases cls ho with ⟨j, o3, hj, rfl, rfl, hgj⟩ | ⟨hi, hoq, hgi⟩
        · rw [dead_ren] at hd
          exact hb.2.1 ⟨j, o3, p, hj, hd, hgj ▸ hg⟩
        · refine hb.2.2 ?_
          rw [st.fr.X]
          exact (hX b).2 (.inr ⟨i, o, p, hi, hk ▸ hoq, hd, hgi ▸ hg⟩)
      · intro hx
        rw [hγ4] at hx
        refine hb.2.2 ?_
        rw [st.fr.X]
        exact (hX b).2 (.inl hx)
    · exact ⟨true, .inl rfl, fun _ => hf⟩
  refine ⟨γ4, retV_rel (fun t ht u hu => hu.ren hcar (fun i hi => mv (refsT_lt hu i hi)) fun hf => List.all_eq_true.1 (hflat hf).1 t ht) hv, ⟨⟨fun i o ho => ?_, ?_, xlt_fr HH f, xno_fr HH f⟩, f, e⟩⟩
  · rcases cls ho with ⟨j, o3, hj, rfl, rfl, hgj⟩ | ⟨hi, hoq, hgi⟩
    · have := st.rel.obj j o3 hj
      exact this.ren hcar hj (fun i hi => mv (refsO_lt this i hi)) (fun hf => List.all_eq_true.1 (hflat hf).2 o3 (List.mem_of_getElem? hj)) hgj
    · by_cases hd : o.isDead = false
      · have ho' := qh hoq hd
        exact (HH.obj i o ho').move f e hgi fun b p hg => outB hi ho' hd hg
      · cases o <;> first | trivial | exact absurd rfl hd
  · intro i i' o o' b p q ho hd ho' hd' hg hg'
    rcases cls ho with ⟨j, o3, hj, rfl, rfl, hgj⟩ | ⟨hi, hoq, hgi⟩ <;> rcases cls ho' with ⟨j', o3', hj', rfl, rfl, hgj'⟩ | ⟨hi', hoq', hgi'⟩
    · rw [dead_ren] at hd hd'
      rw [st.rel.inj j j' _ _ b p q hj hd hj' hd' (hgj ▸ hg) (hgj' ▸ hg')]
    · rw [dead_ren] at hd
      exact absurd ⟨j, o3, p, hj, hd, hgj ▸ hg⟩ (out3 hi' (qh hoq' hd') hd' (hgi' ▸ hg'))
    · rw [dead_ren] at hd'
      exact absurd ⟨j', o3', q, hj', hd', hgj' ▸ hg'⟩ (out3 hi (qh hoq hd) hd (hgi ▸ hg))
    · exact HH.inj i i' o o' b p q (qh hoq hd) hd (qh hoq' hd') hd' (hgi ▸ hg) (hgi' ▸ hg')
theorem call_ok {cal : Cal} (HC : CalOK P E cal) (HH : HRel w h γ) (HG : GRel E w (Ro w h γ)) {g : FuncId} {args : List TV} {vs : List Value} (hp : Pt (TRel w h γ) args vs) {K : AV → List Obj → Prop} (hk : callP E cal g args h K) : CalK P g vs.toArray w (Good w h γ K) := by
  unfold callP at hk
  obtain ⟨hb, hk1⟩ := br_t hk
  simp only [Bool.and_eq_true, Bool.not_eq_true'] at hb
  have C := closed_inv hb.1
  have hl : ∀ i ∈ lentIds (E.rwP g) 0 args, i ∉ order ((lend h (E.rwP g) 0 args).flatMap refsT) (kill h (lentIds (E.rwP g) 0 args)) := fun i hi hm => by
    have := List.any_eq_false.1 hb.2 i hi
    rw [mem_inv.2 hm] at this
    exact this rfl
  have ks := kill_step (ids := lentIds (E.rwP g) 0 args) HH
  obtain ⟨X, hX⟩ : ∃ X : Nat → Prop, ∀ b, X b ↔ γ.X b ∨ ∃ j o p, j ∉ order ((lend h (E.rwP g) 0 args).flatMap refsT) (kill h (lentIds (E.rwP g) 0 args)) ∧ (kill h (lentIds (E.rwP g) 0 args))[j]? = some o ∧ o.isDead = false ∧ γ j = some (b, p) := ⟨_, fun _ => Iff.rfl⟩
  obtain ⟨hr, hc⟩ := hrel_pack (ν := fun _ => 0) ks.rel C (fun b hx => (hX b).2 (.inl hx)) (fun b hx => (hX b).1 hx)
  have hro : ∀ b, Ro w h γ b → Ro w (packO (kill h (lentIds (E.rwP g) 0 args)) (fun _ => 0) (order ((lend h (E.rwP g) 0 args).flatMap refsT) (kill h (lentIds (E.rwP g) 0 args)))) (gPack γ (order ((lend h (E.rwP g) 0 args).flatMap refsT) (kill h (lentIds (E.rwP g) 0 args))) X) b := fun b hb => (hc.resolve_left (by simp)) b (ks.fr.ro b hb).1
  have hargs := lend_ok HH (i := 0) (rw' := E.rwP g) (fun k hk => hk) hp
  refine (HC _ _ _ _ hk1 w _ vs hr (HG.mono fun b hb => ⟨hro b hb, fun _ => rfl⟩) ?_ ?_).mono ?_
  · intro o ho
    obtain ⟨k, hk⟩ := List.getElem?_of_mem ho
    obtain ⟨i, _, rfl⟩ := pack_inv hk
    cases (kill h (lentIds (E.rwP g) 0 args)).getD i .dead <;> rfl
  · refine Pt.map_left _ (hargs.mono fun x y hx hxy => hxy.ren hc (fun i hi => moved_pack C (C.roots i (List.mem_flatMap.2 ⟨x, hx, hi⟩))) fun e => by cases e)
  · rintro v w' ⟨res, h3, γ3, hK, hv, st⟩
    obtain ⟨γ4, hv4, st4⟩ := merge_ok HH C hl hX st (res := res) (hq := match (match lentIds (E.rwP g) 0 args with | [] => true | _ => res.all flatT && h3.all flatO) with | true => h | false => kill h (lentIds (E.rwP g) 0 args)) (by
      cases hlent : lentIds (E.rwP g) 0 args with
      | nil => left; rfl
      | cons a l =>
        simp only
        cases hq : res.all flatT && h3.all flatO with
        | true => right; simp only [Bool.and_eq_true] at hq; exact ⟨rfl, hq⟩
        | false => left; rfl) rfl rfl hv rfl
    exact ⟨_, _, γ4, hK, hv4, st4⟩
end
end Go.Proofs.YtahlcbmmjfdcaaaGreatDoor.PX
