/- PX, part 13: one operation. -/
import Derived.Test.YtahlcbmmjfdcaaaGreatDoorPXCall
set_option linter.all false
namespace Go.Proofs.YtahlcbmmjfdcaaaGreatDoor.PX
set_option linter.unusedVariables false
set_option linter.unusedSimpArgs false
section
variable {P : Program} {E : Env} {w : World} {γ : Gam}

theorem cast_vs {h : List Obj} : ∀ {ts : List TypeId} {vs : List AV} {us : List Value}, Pt (VRel w h γ) vs us → Pt (VRel w h γ) (castVs E ts vs) us
  | [], vs, us, hp => by cases vs <;> exact hp
  | t :: ts, [], us, hp => hp
  | t :: ts, v :: vs, us, hp => by
    obtain ⟨u, us, rfl, hu, hp⟩ := hp.inv
    exact Pt.cons (cast_a hu) (cast_vs hp)
theorem parts_rel {h : List Obj} {sl : List AV} {a : Act} (hs : SRel w h γ sl a.tmps) (hg : GRel E w (Ro w h γ)) (ps : Array (Nat × Operand)) :
    Pt (fun p q => p.1 = q.1 ∧ VRel w h γ p.2 q.2) (ps.toList.map fun p => (p.1, ev E sl p.2)) (ps.map fun x => match x with | (i, x) => (i, a.eval x)).toList := by
  refine ⟨by simp, fun i x y hx hy => ?_⟩
  rw [List.getElem?_map] at hx
  rw [Array.getElem?_toList, Array.getElem?_map] at hy
  obtain ⟨p, hp, rfl⟩ := Option.map_eq_some_iff.1 hx
  rw [Array.getElem?_toList] at hp
  rw [hp] at hy
  simp at hy
  subst hy
  exact ⟨rfl, ev_rel hs hg _⟩
theorem opt_rel {h : List Obj} {sl : List AV} {a : Act} (hs : SRel w h γ sl a.tmps) (hg : GRel E w (Ro w h γ)) (x : Option Operand) : OptRel w h γ (x.map (ev E sl)) (x.map a.eval) := by
  cases x with
  | none => trivial
  | some x => exact ev_rel hs hg x
theorem args_rel {h : List Obj} {sl : List AV} {a : Act} (hs : SRel w h γ sl a.tmps) (hg : GRel E w (Ro w h γ)) (xs : Array Operand) : Pt (VRel w h γ) (xs.toList.map (ev E sl)) (xs.map a.eval).toList := by
  rw [Array.toList_map]
  exact Pt.map_left _ (Pt.map_right _ ⟨rfl, fun i x y hx hy => by rw [hx] at hy; cases hy; exact ev_rel hs hg x⟩)
theorem tvs_rel {h : List Obj} : ∀ {l : List AV} {us : List Value} {ts : List TV}, Pt (VRel w h γ) l us → tvs l = some ts → Pt (TRel w h γ) ts us
  | [], us, ts, hp, ht => by obtain rfl := hp.nil_inv; simp [tvs] at ht; subst ht; exact Pt.nil
  | v :: l, us, ts, hp, ht => by
    obtain ⟨u, us, rfl, hu, hp2⟩ := hp.inv
    cases v with
    | one t =>
      simp only [tvs] at ht
      obtain ⟨r, hr, rfl⟩ := Option.map_eq_some_iff.1 ht
      exact Pt.cons hu (tvs_rel hp2 hr)
    | tup l => simp [tvs] at ht
    | un => simp [tvs] at ht
theorem ptrIds_rel {h : List Obj} : ∀ {l : List AV} {us : List Value} {ids : List Nat}, Pt (VRel w h γ) l us → ptrIds l = some ids → Pt (PtrV h γ · 0 ·) ids us
  | [], us, ids, hp, hi => by obtain rfl := hp.nil_inv; simp [ptrIds] at hi; subst hi; exact Pt.nil
  | v :: l, us, ids, hp, hi => by
    obtain ⟨u, us, rfl, hu, hp2⟩ := hp.inv
    unfold ptrIds at hi
    split at hi
    · rename_i heq; cases heq
    · rename_i id l' heq
      simp only [List.cons.injEq] at heq
      obtain ⟨rfl, rfl⟩ := heq
      obtain ⟨r, hr, rfl⟩ := Option.map_eq_some_iff.1 hi
      exact Pt.cons hu.2 (ptrIds_rel hp2 hr)
    · cases hi
theorem ptrIds_one {h : List Obj} : ∀ {l : List AV} {us : List Value} {ids : List Nat}, Pt (VRel w h γ) l us → ptrIds l = some ids → ∀ x ∈ us, x.oneCell' = true
  | [], us, ids, hp, hi => by obtain rfl := hp.nil_inv; simp
  | v :: l, us, ids, hp, hi => by
    obtain ⟨u, us, rfl, hu, hp2⟩ := hp.inv
    unfold ptrIds at hi
    split at hi
    · rename_i heq; cases heq
    · rename_i id l' heq
      simp only [List.cons.injEq] at heq
      obtain ⟨rfl, rfl⟩ := heq
      obtain ⟨r, hr, rfl⟩ := Option.map_eq_some_iff.1 hi
      intro x hx
      rcases List.mem_cons.1 hx with rfl | hx
      · exact hu.1
      · exact ptrIds_one hp2 hr x hx
    · cases hi
theorem ptr_one {h : List Obj} {id off : Nat} {v : Value} (hp : PtrV h γ id off v) (h1 : v.oneCell' = true) : VRel w h γ (.lf (.ptr id off)) v := ⟨h1, hp⟩
end
section
variable {P : Program} {E : Env} {w : World} {γ : Gam} {o : Oper} {a : Act} {next : Act → World → Prop} {Q : Exit → Act → World → Prop} {K : AV → List Obj → Prop} {h : List Obj}
abbrev Nexts (w : World) (h : List Obj) (γ : Gam) (o : Oper) (a : Act) (K : AV → List Obj → Prop) (next : Act → World → Prop) : Prop := ∀ v h' u w' γ', K v h' → VRel w' h' γ' v u → Step w h γ w' h' γ' → next (a.put o.dst u) w'
theorem val_ok {S : Sem Value} (hn : Nexts w h γ o a K next) (hk : HeapOK P w h γ S K) : o.upon P a next Q ((do pure (Next.value (← S)) : Sem Next).run P w) := by
  obtain ⟨u, w', hr, v, h', γ', hK, hv, st⟩ := hk
  simp only [Sem.run_bind, hr, Result.andThen_ok, Sem.run_pure]
  exact hn v h' u w' γ' hK hv st
theorem unit_ok {S : Sem Unit} {K' : List Obj → Prop} (hn : Nexts w h γ o a (fun v h => K' h ∧ v = .un) next) (hk : ∃ w' h' γ', S.run P w = .ok () w' ∧ K' h' ∧ Step w h γ w' h' γ') : o.upon P a next Q ((do S; pure Next.skip : Sem Next).run P w) := by
  obtain ⟨w', h', γ', hr, hK, st⟩ := hk
  simp only [Sem.run_bind, hr, Result.andThen_ok, Sem.run_pure]
  exact hn .un h' undef w' γ' ⟨hK, rfl⟩ trivial st
theorem now_ok (HH : HRel w h γ) {v : AV} {u : Value} (hv : VRel w h γ v u) (hk : K v h) (hn : Nexts w h γ o a K next) : o.upon P a next Q ((pure (Next.value u) : Sem Next).run P w) := hn v h u w γ hk hv (Step.refl HH)
theorem calk_ok {g : FuncId} {vs : Array Value} (hn : Nexts w h γ o a K next) (hc : CalK P g vs w (Good w h γ K)) : o.upon P a next Q ((callFunc g vs).run P w) := by
  unfold CalK at hc
  split at hc
  · rename_i v w' hr
    rw [hr]
    obtain ⟨x, h', γ', hK, hv, st⟩ := hc
    exact hn x h' v w' γ' hK hv st
  · rename_i f args w1 hr
    rw [hr]
    refine Calls.mono' hc fun e w' he => ?_
    obtain ⟨v, rfl, x, h', γ', hK, hv, st⟩ := he
    exact hn x h' v w' γ' hK hv st
  · rename_i row args w1 hr
    rw [hr]
    refine Rows.mono hc fun v w' he => ?_
    obtain ⟨x, h', γ', hK, hv, st⟩ := he
    exact hn x h' v w' γ' hK hv st
  · exact hc.elim
theorem one_arg {l : List AV} {us : Array Value} {x : AV} (hl : l = [x]) (hp : Pt (VRel w h γ) l us.toList) : ∃ u, us = #[u] ∧ VRel w h γ x u := by
  subst hl
  obtain ⟨u, r, he, hu, hp⟩ := hp.inv
  obtain rfl := hp.nil_inv
  exact ⟨u, Array.toList_inj.1 he, hu⟩
theorem two_args {l : List AV} {us : Array Value} {x y : AV} (hl : l = [x, y]) (hp : Pt (VRel w h γ) l us.toList) : ∃ u v, us = #[u, v] ∧ VRel w h γ x u ∧ VRel w h γ y v := by
  subst hl
  obtain ⟨u, r, he, hu, hp⟩ := hp.inv
  obtain ⟨v, r', rfl, hv, hp⟩ := hp.inv
  obtain rfl := hp.nil_inv
  exact ⟨u, v, Array.toList_inj.1 he, hu, hv⟩
theorem builtin_ok (H : EOK P E) (HH : HRel w h γ) {b : Builtin} {ts : Array TypeId} {ty : TypeId} {cs : Array Bool} {l : List AV} {us : Array Value} (hp : Pt (VRel w h γ) l us.toList) (hk : builtinP E b ts.toList l h K) (hn : Nexts w h γ o a K next) :
    o.upon P a next Q ((builtin b ts ty cs us).run P w) := by
  unfold builtinP at hk
  have t0 : ∀ {t r}, ts.toList = t :: r → ts[0]? = some t := fun e => by rw [← Array.getElem?_toList, e]; rfl
  have t1 : ∀ {t t2 r}, ts.toList = t :: t2 :: r → ts[1]? = some t2 := fun e => by rw [← Array.getElem?_toList, e]; rfl
  split at hk
  · rename_i t r x he
    obtain ⟨u, rfl, hx⟩ := one_arg rfl hp
    exact val_ok hn ((len_ok H HH (t0 he) hx hk).heap HH)
  · rename_i t t2 r x y he
    obtain ⟨u, v, rfl, hx, hy⟩ := two_args rfl hp
    exact val_ok hn (append_ok H HH (t0 he) (t1 he) hx hy hk)
  · rename_i t t2 r x y he
    obtain ⟨u, v, rfl, hx, hy⟩ := two_args rfl hp
    exact val_ok hn (copy_ok H HH (t0 he) hx hy hk)
  · rename_i t r x he
    obtain ⟨u, rfl, hx⟩ := one_arg rfl hp
    exact val_ok hn (clear_ok H HH (t0 he) hx hk)
  · obtain ⟨n, hK, hr⟩ := mm_ok (P := P) (ts := ts) (ty := ty) hp hk
    rw [if_pos rfl, Array.toArray_toList] at hr
    exact val_ok hn ⟨_, w, hr, _, _, γ, hK, DRel.int, Step.refl HH⟩
  · obtain ⟨n, hK, hr⟩ := mm_ok (P := P) (ts := ts) (ty := ty) hp hk
    rw [if_neg (by simp), Array.toArray_toList] at hr
    exact val_ok hn ⟨_, w, hr, _, _, γ, hK, DRel.int, Step.refl HH⟩
  · exact hk.elim
theorem op_ok {cal : Cal} (H : EOK P E) (HC : CalOK P E cal) {s : St} (HH : HRel w s.heap γ) (HS : SRel w s.heap γ s.slots a.tmps) (HG : GRel E w (Ro w s.heap γ)) (hk : opP E cal o s K) (hn : Nexts w s.heap γ o a K next) :
    o.upon P a next Q ((execOp a.eval o).run P w) := by
  have er : ∀ x, VRel w s.heap γ (ev E s.slots x) (a.eval x) := fun x => ev_rel HS HG x
  have pu : ∀ {S : Sem Value}, PureOK P w s.heap γ S (fun v => K v s.heap) → o.upon P a next Q ((do pure (Next.value (← S)) : Sem Next).run P w) := fun hp => val_ok hn (hp.heap HH)
  unfold opP at hk
  unfold execOp
  obtain ⟨dst, op, ty, pos, after, guard⟩ := o
  simp only at hk ⊢
  cases op with
  | move x => exact now_ok HH (cast_a (er x)) hk hn
  | assign x => exact now_ok HH (cast_a (er x)) hk hn
  | pick c x y =>
    obtain ⟨b, _, hb, hk⟩ := asB_inv hk (er c)
    simp only [hb, asBool, Sem.run_bind, Sem.run_pure, Result.andThen_ok]
    cases b with
    | true => exact hn _ _ _ w γ hk (er x) (Step.refl HH)
    | false => exact hn _ _ _ w γ hk (er y) (Step.refl HH)
  | alloc t => exact val_ok hn (alloc_ok H HH hk)
  | box t x => exact val_ok hn (box_ok HH (er x) hk)
  | build t ps => exact pu (build_ok H (parts_rel HS HG ps) hk)
  | buildSlice t n ps => exact val_ok hn (buildSlice_ok H HH (parts_rel HS HG ps) hk)
  | load t x => exact pu (load_ok H HH (er x) hk)
  | store t x y => exact unit_ok (fun v h' u w' γ' hK hv st => hn v h' u w' γ' (hK.2 ▸ hK.1) hv st) (store_ok H HH (er x) (er y) hk)
  | nilCheck x =>
    obtain ⟨b, off, v', hu, hK, hv⟩ := shift_ptr (er x) hk
    simp only [hu]
    exact hn v' _ _ w γ hK hv (Step.refl HH)
  | binOp op t x y q => exact pu (bin_ok H (er x) (er y) hk)
  | unOp op t x => exact pu (un_ok (er x) hk)
  | convert t t2 x => exact pu (conv_ok H HH (er x) hk)
  | makeFunc fn first caps =>
    simp only at hk
    split at hk
    · rename_i f ids h1 h2
      have : first = #[] := Array.toList_inj.1 h1
      subst this
      exact hn _ _ _ w γ hk ⟨caps.map a.eval, by simp, ptrIds_one (args_rel HS HG caps) h2, ptrIds_rel (args_rel HS HG caps) h2⟩ (Step.refl HH)
    · exact hk.elim
  | makeMap t r =>
    cases r with
    | some r => exact hk.elim
    | none =>
      simp only at hk
      split at hk
      · split at hk
        · exact val_ok hn (makeMap_ok HH hk)
        · exact hk.elim
      · exact hk.elim
  | makeSlice t l c => exact val_ok hn (makeSlice_ok H HH (er l) (er c) hk)
  | slice t x lo hi mx => exact pu (slice_ok H HH (er x) (opt_rel HS HG lo) (opt_rel HS HG hi) (opt_rel HS HG mx) hk)
  | fieldAddr t x f => exact pu (fieldAddr_ok H (er x) hk)
  | indexAddr t x i => exact pu (indexAddr_ok H (er x) (er i) hk)
  | index t x i => exact pu (index_ok H (er x) (er i) hk)
  | lookup t x k ok => exact pu (lookup_ok H HH (er x) (er k) hk)
  | mapUpdate t m k x => exact unit_ok (fun v h' u w' γ' hK hv st => hn v h' u w' γ' (hK.2 ▸ hK.1) hv st) (mapSet_ok H HH (er m) (er k) (er x) hk)
  | insert t m k x => exact unit_ok (fun v h' u w' γ' hK hv st => hn v h' u w' γ' (hK.2 ▸ hK.1) hv st) (mapSet_ok H HH (er m) (er k) (er x) hk)
  | extract t i => exact pu (extract_ok (er t) hk)
  | range t x =>
    simp only at hk
    split at hk
    · rename_i hkd
      obtain ⟨b, _, hb, hk⟩ := asS_inv hk (er x)
      simp only [hb]
      exact val_ok hn (rangeStr_ok HH (H.kd hkd) hk)
    · exact hk.elim
  | next it b =>
    cases b with
    | false => exact hk.elim
    | true =>
      simp only at hk
      split at hk
      · rename_i id hit
        split at hk
        · rename_i str pos ho
          have := er it
          rw [hit] at this
          exact val_ok hn (nextStr_ok HH ho this hk)
        · exact hk.elim
      · exact hk.elim
  | call c =>
    obtain ⟨callee, args, argTypes⟩ := c
    simp only at hk ⊢
    cases callee with
    | builtin b =>
      simp only [resolve, Sem.run_bind, Sem.run_pure, Result.andThen_ok, invoke]
      exact builtin_ok H HH (args_rel HS HG args) hk hn
    | value f =>
      simp only at hk
      split at hk
      · rename_i g caps targs hf ht
        have hv := er f
        rw [hf] at hv
        obtain ⟨vs, hfe, hone, hcaps⟩ := hv
        have hp1 := tvs_rel (cast_vs (args_rel HS HG args)) ht
        simp only [resolve, hfe, Deferred.ofValue, Sem.run_bind, Sem.run_pure, Result.andThen_ok, invoke, Array.empty_append]
        have hp2 : Pt (TRel w s.heap γ) (targs ++ caps.map fun id => TV.lf (.ptr id 0)) (args.map a.eval ++ vs).toList := by
          rw [Array.toList_append]
          refine hp1.append (Pt.map_left _ ⟨hcaps.1, fun i x y hx hy => ⟨hone y (List.mem_of_getElem? hy), hcaps.2 i x y hx hy⟩⟩)
        have := call_ok HC HH HG hp2 hk
        rw [Array.toArray_toList] at this
        exact calk_ok hn this
      · exact hk.elim
    | invoke r n => exact hk.elim
  | _ => exact hk.elim
end
end Go.Proofs.YtahlcbmmjfdcaaaGreatDoor.PX
