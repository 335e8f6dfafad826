/- PX, part 15: functions: a body's answer is a call's; tables of callees. -/
import Derived.Test.YtahlcbmmjfdcaaaGreatDoorPXCode
set_option linter.all false
namespace Go.Proofs.YtahlcbmmjfdcaaaGreatDoor.PX
set_option linter.unusedVariables false
set_option linter.unusedSimpArgs false
section
variable {P : Program} {E : Env} {w : World} {γ : Gam} {h : List Obj}

theorem loadAt_var {t : TypeId} {u v : Value} (hr : (Instr.loadAt t u).run P w = .ok v w) : (do loadVar t (← asAddr u) : Sem Value).run P w = .ok v w := by
  cases u with
  | pointer a =>
    cases a with
    | some a => exact hr
    | none => simp [Instr.loadAt, Instr.sureAddr] at hr
  | _ => simp [Instr.loadAt, Instr.sureAddr] at hr
theorem resP_ok (H : EOK P E) (HH : HRel w h γ) {sl : List AV} {tmps : Array Value} (HS : SRel w h γ sl tmps) : ∀ {rs : List ResultVar} {K : List TV → Prop}, resP E ⟨sl, h⟩ rs K →
    ∃ xs vs, (rs.mapM fun | .tmp t => pure (tmps.getD t undef) | .cell a t => do loadVar t (← asAddr (tmps.getD a undef)) : Sem (List Value)).run P w = .ok vs w ∧ K xs ∧ Pt (TRel w h γ) xs vs
  | [], K, hk => ⟨[], [], by simp, hk, Pt.nil⟩
  | r :: rs, K, hk => by
    have get : ∀ t, VRel w h γ (sl.getD t .un) (tmps.getD t undef) := fun t => by
      cases hx : sl[t]? with
      | none => rw [List.getD_eq_getElem?_getD, hx]; trivial
      | some v =>
        obtain ⟨u, hu, hv⟩ := HS.get hx
        rw [List.getD_eq_getElem?_getD, hx, Array.getD_eq_getD_getElem?, ← Array.getElem?_toList, hu]
        exact hv
    cases r with
    | tmp t =>
      simp only [resP] at hk
      obtain ⟨x, hx, hk1⟩ := onT_inv hk
      obtain ⟨xs, vs, hr, hK, hp⟩ := resP_ok H HH HS hk1
      have hg := get t
      rw [hx] at hg
      refine ⟨x :: xs, tmps.getD t undef :: vs, ?_, hK, Pt.cons hg hp⟩
      simp only [List.mapM_cons, Sem.run_bind, Sem.run_pure, Result.andThen_ok, hr]
    | cell c t =>
      simp only [resP] at hk
      obtain ⟨v, x, hr0, hk1, hv⟩ := load_ok H HH (get c) hk
      obtain ⟨y, rfl, hk2⟩ := onT_inv hk1
      obtain ⟨xs, vs, hr, hK, hp⟩ := resP_ok H HH HS hk2
      refine ⟨y :: xs, v :: vs, ?_, hK, Pt.cons hv hp⟩
      have := loadAt_var hr0
      simp only [List.mapM_cons, Sem.run_bind, Sem.run_pure, Result.andThen_ok] at this ⊢
      rw [this]
      simp only [Result.andThen_ok, hr]
theorem res_val {xs : List TV} {vs : List Value} (hp : Pt (TRel w h γ) xs vs) : VRel w h γ (retV xs) (if h : vs.toArray.size = 1 then vs.toArray[0] else .tuple vs.toArray) := by
  match xs, vs, hp with
  | [], vs, hp => obtain rfl := hp.nil_inv; exact ⟨#[], rfl, Pt.nil⟩
  | [x], vs, hp =>
    obtain ⟨v, r, rfl, hv, hp2⟩ := hp.inv
    obtain rfl := hp2.nil_inv
    exact hv
  | x :: y :: xs, vs, hp =>
    have hl := hp.1
    simp only [List.length_cons] at hl
    rw [dif_neg (by simp; omega)]
    exact ⟨_, rfl, hp⟩
theorem leave_ok {w0 : World} {h0 : List Obj} {γ0 : Gam} (hz : ∀ o ∈ h0, verO o = 0) (st : Step w0 h0 γ0 w h γ) {xs : List TV} {u : Value} (hv : VRel w h γ (retV xs) u) {K : List TV → List Obj → Prop} (hk : leaveP E h0.length xs h K) :
    ∃ res h' γ', K res h' ∧ VRel w h' γ' (retV res) u ∧ Step w0 h0 γ0 w h' γ' := by
  have pk : ∀ {xs : List TV} {h1 : List Obj} {γ1 : Gam}, VRel w h1 γ1 (retV xs) u → Step w0 h0 γ0 w h1 γ1 → (let roots := List.range h0.length ++ xs.flatMap refsT
      let ids := order roots h1
      br (closed h1 roots ids && firsts h0.length ids) (K (xs.map (renT h1 (idx · ids) (capV h0.length false h1))) (packO h1 (capV h0.length false h1) ids)) False) → ∃ res h' γ', K res h' ∧ VRel w h' γ' (retV res) u ∧ Step w0 h0 γ0 w h' γ' := by
    intro xs h1 γ1 hv st hk
    obtain ⟨hb, hk1⟩ := br_t hk
    simp only [Bool.and_eq_true] at hb
    have C := closed_inv hb.1
    obtain ⟨hr, hc⟩ := hrel_pack (ν := capV h0.length false h1) st.rel C (X := γ1.X) (fun b hx => hx) (fun b hx => .inl hx)
    exact ⟨_, _, gPack γ1 _ γ1.X, hk1, retV_rel (fun t ht v hv => hv.ren hc (fun i hi => moved_pack C (C.roots i (List.mem_append_right _ (List.mem_flatMap.2 ⟨t, ht, hi⟩)))) fun e => by cases e) hv, pack_step hz st C hb.2 false⟩
  unfold leaveP at hk
  cases hw : E.rwR with
  | true => rw [hw] at hk; exact pk hv st hk
  | false =>
    rw [hw] at hk
    have ks := kill_step (ids := xs.flatMap convIdsT) st.rel
    exact pk (retV_rel (fun t ht v hv => convT_kill st.rel (fun i hi => List.mem_flatMap.2 ⟨t, ht, hi⟩) hv) hv) (st.trans ks) hk
theorem start_rel {args : List TV} {vs : List Value} (hp : Pt (TRel w h γ) args vs) (n : Nat) : SRel w h γ (args.map .one ++ List.replicate (n - args.length) .un) (vs.toArray ++ Array.replicate (n - vs.toArray.size) undef) := by
  unfold SRel
  rw [Array.toList_append, Array.toList_replicate]
  have h1 : Pt (VRel w h γ) (args.map .one) vs := Pt.map_left _ hp
  refine h1.append ⟨by simp [hp.1], fun i x y hx hy => ?_⟩
  have := List.eq_of_mem_replicate (List.mem_of_getElem? hx)
  subst this
  trivial
/-- A function's body, on these arguments, answers so: it does. -/
theorem body_ok {cal : Cal} {lp : Lps} {drawP : List Oper → St → (St → Prop) → Prop} (H : EOK P E) (HC : CalOK P E cal) (HD : DrawOK P E drawP) {f : FuncId} {fn : Func} (hf : P.funcs[f]? = some fn) (hrun0 : ∀ (args : Array Value) (w : World), (callFunc f args).run P w = .ok (.enter f args) w)
    {args : List TV} {K : List TV → List Obj → Prop} (hk : bodyP E cal lp drawP fn args h K) (hL : ∀ c, fn.body = some c → LoopsOK E cal lp drawP h.length c) (hE : E.n = fn.ntmps) (hle : args.length ≤ fn.ntmps) (HH : HRel w h γ) (HG : GRel E w (Ro w h γ)) (hz : ∀ o ∈ h, verO o = 0) {vs : List Value} (hp : Pt (TRel w h γ) args vs) :
    CalK P f vs.toArray w fun v w' => ∃ res h' γ', K res h' ∧ VRel w' h' γ' (retV res) v ∧ Step w h γ w' h' γ' := by
  unfold bodyP at hk
  cases hb : fn.body with
  | none => rw [hb] at hk; exact hk.elim
  | some c =>
    rw [hb] at hk
    have hrun := hrun0 vs.toArray w
    unfold CalK
    rw [hrun]
    refine calls_of_wp hf hb (Code.wp_mono ?_ (exec_ok H HC HD hz HG c (hL c hb) hk (w := w) (γ := γ) (a := { tmps := vs.toArray ++ Array.replicate (fn.ntmps - vs.toArray.size) undef, defers := [] }) ⟨Step.refl HH, by rw [hE]; exact start_rel hp fn.ntmps, rfl, by have := hp.1; simp; omega⟩))
    rintro e a1 w1 ⟨ex, ⟨sl, h1⟩, γ1, he, hK, B⟩
    have fin : ∀ {K' : List TV → Prop}, True → resP E ⟨sl, h1⟩ fn.results.toList (fun res => leaveP E h.length res h1 K) → a1.defers = [] ∧ ∃ v, (results fn a1.tmps).run P w1 = .ok v w1 ∧ ∃ v', Ending.returned v = .returned v' ∧ ∃ res h' γ', K res h' ∧ VRel w1 h' γ' (retV res) v' ∧ Step w h γ w1 h' γ' := by
      intro _ _ hr
      obtain ⟨xs, us, hrun, hK, hp⟩ := resP_ok H B.st.rel B.sr hr
      refine ⟨B.df, (if h : us.toArray.size = 1 then us.toArray[0] else .tuple us.toArray), ?_, _, rfl, leave_ok hz B.st (res_val hp) hK⟩
      simp only [results, Array.mapM_eq_mapM_toList, Sem.run_bind, Sem.run_pure, Sem.run_map]
      exact Eq.trans (congrArg (fun r : Result (List Value) => (r.andThen fun a w' => Result.ok a.toArray w').andThen fun a w' => Result.ok (if h : a.size = 1 then a[0] else Value.tuple a) w') hrun) rfl
    cases ex with
    | normal =>
      cases e <;> first | exact he.elim | skip
      exact fin (K' := fun _ => True) trivial hK
    | exit i => exact hK.elim
    | ret =>
      cases e <;> first | exact he.elim | skip
      exact fin (K' := fun _ => True) trivial hK
end
end Go.Proofs.YtahlcbmmjfdcaaaGreatDoor.PX
