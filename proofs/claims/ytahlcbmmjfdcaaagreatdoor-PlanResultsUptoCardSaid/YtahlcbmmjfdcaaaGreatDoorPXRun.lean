/- PX, part 23: closed runs: the interpreter with rounds counted down, callees run in turn. -/
import Derived.Test.YtahlcbmmjfdcaaaGreatDoorPXPrn
set_option linter.all false
namespace Go.Proofs.YtahlcbmmjfdcaaaGreatDoor.PX
set_option linter.unusedVariables false
/-- As execP, every loop so many rounds at most; no cuts. -/
def execR (E : Env) (cal : Cal) (N : Nat) (m : Nat) : Code → St → (Ex → St → Prop) → Prop
  | .skip, s, K => K .normal s
  | .label _, s, K => K .normal s
  | .region _ ops draw, s, K => match draw with
    | true => drawP E cal ops.toList s (K .normal)
    | false => regP E cal ops.toList ops.toList s (K .normal)
  | .seq a b, s, K => execR E cal N m a s fun e s' => match e with | .normal => execR E cal N m b s' K | .exit i => K (.exit i) s' | .ret => K .ret s'
  | .cond c a b, s, K => asB (ev E s.slots c) fun t => br t (execR E cal N m a (litC c s true) K) (execR E cal N m b (litC c s false) K)
  | .block id c, s, K => execR E cal N m c s fun e s' => match e with | .exit i => (match Nat.beq i id with | true => K .normal s' | false => K (.exit i) s') | .normal => K .normal s' | .ret => K .ret s'
  | .loop c, s, K => normP E (lid c) m s fun vs h => iterP E m (lid c) (execR E cal N m c) N vs h K
  | .exit id, s, K => K (.exit id) (forgetX E id s)
  | .ret, s, K => K .ret (forget E E.res s)
  | _, _, _ => False
def bodyR (E : Env) (cal : Cal) (N : Nat) (fn : Func) (args : List TV) (h : List Obj) (K : List TV → List Obj → Prop) : Prop :=
  match fn.body with
  | none => False
  | some c => execR E cal N h.length c ⟨args.map .one ++ List.replicate (E.n - args.length) .un, h⟩ fun e s =>
      match e with
      | .exit _ => False
      | _ => resP E s fn.results.toList fun res => leaveP E h.length res s.heap K
section
variable {P : Program} {E : Env} {w : World} {γ : Gam} {h : List Obj}
theorem execR_ok {cal : Cal} {N : Nat} (H : EOK P E) (HC : CalOK P E cal) (HD : DrawOK P E (drawP E cal)) {w0 : World} {h0 : List Obj} {γ0 : Gam} (hz : ∀ o ∈ h0, verO o = 0) (HG : GRel E w0 (Ro w0 h0 γ0)) :
    ∀ (c : Code) {s : St} {K : Ex → St → Prop} {w : World} {γ : Gam} {a : Act}, execR E cal N h0.length c s K → Body E w0 h0 γ0 s a w γ → c.wp P (Post E w0 h0 γ0 K) a w
  | .skip, s, K, w, γ, a, hk, B => wp_skip ⟨.normal, s, γ, trivial, hk, B⟩
  | .label l, s, K, w, γ, a, hk, B => wp_label ⟨.normal, s, γ, trivial, hk, B⟩
  | .region id ops draw, s, K, w, γ, a, hk, B => by
    have nx : NextR w s.heap γ a (K .normal) (Post E w0 h0 γ0 K) := fun s' w' γ' a' hK st hs hd hl =>
      ⟨.normal, s', γ', trivial, hK, B.st.trans st, hs, hd.trans B.df, hl.trans B.n⟩
    simp only [execR] at hk
    cases draw with
    | true => exact HD _ _ _ hk id w γ a _ B.st.rel B.sr (HG.mono B.st.fr.ro) nx
    | false => exact wp_region_list (reg_ok H HC hk B.st.rel B.sr (HG.mono B.st.fr.ro) nx)
  | .seq x y, s, K, w, γ, a, hk, B => by
    refine wp_seq (Code.wp_mono ?_ (execR_ok H HC HD hz HG x hk B))
    rintro e a1 w1 ⟨ex, s1, γ1, he, hK, B1⟩
    cases ex with
    | normal =>
      cases e <;> first | exact he.elim | skip
      exact execR_ok H HC HD hz HG y hK B1
    | exit i =>
      cases e <;> first | exact he.elim | skip
      exact ⟨.exit i, s1, γ1, he, hK, B1⟩
    | ret =>
      cases e <;> first | exact he.elim | skip
      exact ⟨.ret, s1, γ1, trivial, hK, B1⟩
  | .cond c x y, s, K, w, γ, a, hk, B => by
    have hG := HG.mono B.st.fr.ro
    simp only [execR] at hk
    obtain ⟨b, hb1, hb2, hk1⟩ := asB_inv hk (ev_rel B.sr hG c)
    cases b with
    | true => exact wp_cond_true hb2 (execR_ok H HC HD hz HG x hk1 (litC_body B hb1))
    | false => exact wp_cond_false hb2 (execR_ok H HC HD hz HG y hk1 (litC_body B hb1))
  | .block id c, s, K, w, γ, a, hk, B => by
    refine wp_block (Code.wp_mono ?_ (execR_ok H HC HD hz HG c hk B))
    rintro e a1 w1 ⟨ex, s1, γ1, he, hK, B1⟩
    cases ex with
    | normal =>
      cases e <;> first | exact he.elim | skip
      exact ⟨.normal, s1, γ1, trivial, hK, B1⟩
    | exit i =>
      cases e <;> first | exact he.elim | skip
      rename_i j
      obtain rfl : i = j := he
      simp only at hK
      by_cases hi : i = id
      · subst hi
        simp only [Nat.beq_refl] at hK
        simp only [Exit.inBlock, if_true]
        exact ⟨.normal, s1, γ1, trivial, hK, B1⟩
      · have : Nat.beq i id = false := by
          cases hb : Nat.beq i id with
          | false => rfl
          | true => exact absurd (Nat.eq_of_beq_eq_true hb) hi
        rw [this] at hK
        simp only [Exit.inBlock, if_neg hi]
        exact ⟨.exit i, s1, γ1, rfl, hK, B1⟩
    | ret =>
      cases e <;> first | exact he.elim | skip
      exact ⟨.ret, s1, γ1, trivial, hK, B1⟩
  | .loop c, s, K, w, γ, a, hk, B => by
    simp only [execR] at hk
    obtain ⟨vs, h1, γ1, hk2, A⟩ := norm_ok hz hk B
    refine wp_loop_rounds N ?_
    have key : ∀ (k : Nat) (vs : List AV) (h : List Obj) (w : World) (γ : Gam) (a : Act), iterP E h0.length (lid c) (execR E cal N h0.length c) k vs h K → Head E w0 h0 γ0 (lid c) vs h a w γ → Code.rounds P c (Post E w0 h0 γ0 K) k a w := by
      intro k
      induction k with
      | zero => intro vs h w γ a hk A; exact hk.elim
      | succ k ih =>
        intro vs h w γ a hk A
        refine Code.wp_mono ?_ (execR_ok H HC HD hz HG c hk A.body)
        rintro e a1 w1 ⟨ex, s1, γ1, he, hK, B1⟩
        cases ex with
        | normal =>
          cases e <;> first | exact he.elim | skip
          obtain ⟨vs2, h2, γ2, hk2, A2⟩ := norm_ok hz hK B1
          exact ih _ _ _ _ _ hk2 A2
        | exit i =>
          cases e <;> first | exact he.elim | skip
          exact ⟨.exit i, s1, γ1, he, hK, B1⟩
        | ret =>
          cases e <;> first | exact he.elim | skip
          exact ⟨.ret, s1, γ1, trivial, hK, B1⟩
    exact key N vs h1 w γ1 a hk2 A
  | .exit id, s, K, w, γ, a, hk, B => by
    refine wp_exit ⟨.exit id, _, γ, rfl, hk, ?_⟩
    unfold forgetX
    split
    · exact forget_body B _
    · exact B
  | .ret, s, K, w, γ, a, hk, B => wp_ret ⟨.ret, _, γ, trivial, hk, forget_body B _⟩
  | .rangeFunc .., s, K, w, γ, a, hk, B => hk.elim
  | .scope _, s, K, w, γ, a, hk, B => hk.elim
  | .goto _, s, K, w, γ, a, hk, B => hk.elim
  | .refuse _, s, K, w, γ, a, hk, B => hk.elim
theorem bodyR_ok {cal : Cal} {N : Nat} (H : EOK P E) (HC : CalOK P E cal) (HD : DrawOK P E (drawP E cal)) {f : FuncId} {fn : Func} (hf : P.funcs[f]? = some fn) (hrun0 : ∀ (args : Array Value) (w : World), (callFunc f args).run P w = .ok (.enter f args) w)
    {args : List TV} {K : List TV → List Obj → Prop} (hk : bodyR E cal N fn args h K) (hE : E.n = fn.ntmps) (hle : args.length ≤ fn.ntmps) (HH : HRel w h γ) (HG : GRel E w (Ro w h γ)) (hz : ∀ o ∈ h, verO o = 0) {vs : List Value} (hp : Pt (TRel w h γ) args vs) :
    CalK P f vs.toArray w fun v w' => ∃ res h' γ', K res h' ∧ VRel w' h' γ' (retV res) v ∧ Step w h γ w' h' γ' := by
  unfold bodyR at hk
  cases hb : fn.body with
  | none => rw [hb] at hk; exact hk.elim
  | some c =>
    rw [hb] at hk
    have hrun := hrun0 vs.toArray w
    unfold CalK
    rw [hrun]
    refine calls_of_wp hf hb (Code.wp_mono ?_ (execR_ok H HC HD hz HG c hk (w := w) (γ := γ) (a := { tmps := vs.toArray ++ Array.replicate (fn.ntmps - vs.toArray.size) undef, defers := [] }) ⟨Step.refl HH, by rw [hE]; exact start_rel hp fn.ntmps, rfl, by have := hp.1; simp; omega⟩))
    rintro e a1 w1 ⟨ex, ⟨sl, h1⟩, γ1, he, hK, B⟩
    have fin : resP E ⟨sl, h1⟩ fn.results.toList (fun res => leaveP E h.length res h1 K) → a1.defers = [] ∧ ∃ v, (results fn a1.tmps).run P w1 = .ok v w1 ∧ ∃ v', Ending.returned v = .returned v' ∧ ∃ res h' γ', K res h' ∧ VRel w1 h' γ' (retV res) v' ∧ Step w h γ w1 h' γ' := by
      intro hr
      obtain ⟨xs, us, hrun, hK, hp⟩ := resP_ok H B.st.rel B.sr hr
      refine ⟨B.df, (if h : us.toArray.size = 1 then us.toArray[0] else .tuple us.toArray), ?_, _, rfl, leave_ok hz B.st (res_val hp) hK⟩
      simp only [results, Array.mapM_eq_mapM_toList, Sem.run_bind, Sem.run_pure, Sem.run_map]
      exact Eq.trans (congrArg (fun r : Result (List Value) => (r.andThen fun a w' => Result.ok a.toArray w').andThen fun a w' => Result.ok (if h : a.size = 1 then a[0] else Value.tuple a) w') hrun) rfl
    cases ex with
    | normal =>
      cases e <;> first | exact he.elim | skip
      exact fin hK
    | exit i => exact hK.elim
    | ret =>
      cases e <;> first | exact he.elim | skip
      exact fin hK
end
/-- An environment for any function: all slots live on, all rows are handed over. -/
def Erun (E : Env) (fn : Func) : Env :=
  { T := E.T, G := E.G, adv := fun id => match Nat.blt id 1000000 with | true => some (List.range fn.ntmps, (List.range fn.ntmps).map fun t => (t, 0), false) | false => none, m := 0, n := fn.ntmps, out := fun _ => none, res := List.range fn.ntmps, rwP := fun _ => List.range 20, rwR := true }
/-- So deep at most; N rounds; other callees by their entries. -/
def calR (E : Env) (F : List (Nat × Func)) (sp : List (Nat × Ent)) (N : Nat) : Nat → Cal
  | 0, _, _, _, _ => False
  | d + 1, g, args, h, K => match lookN F g with
    | some fn => gd (Nat.ble args.length fn.ntmps) (bodyR (Erun E fn) (calR E F sp N d) N fn args h K)
    | none => tab sp g args h K
theorem lookN_mem {α : Type} : ∀ {l : List (Nat × α)} {k : Nat} {x : α}, lookN l k = some x → (k, x) ∈ l
  | [], k, x, h => by cases h
  | (n, y) :: l, k, x, h => by
    unfold lookN at h
    split at h
    · rename_i hb
      obtain rfl := Nat.eq_of_beq_eq_true hb
      cases h
      simp
    · exact List.mem_cons_of_mem _ (lookN_mem h)
theorem calR_ok {P : Program} {E : Env} {F : List (Nat × Func)} {sp : List (Nat × Ent)} {N : Nat} (H : EOK P E) (hm : P.follows .mixedOrders = true) (hF : ∀ p ∈ F, P.funcs[p.1]? = some p.2 ∧ ∀ (args : Array Value) (w : World), (callFunc p.1 args).run P w = .ok (.enter p.1 args) w) (hs : ∀ p ∈ sp, EntOK P E p.1 p.2) : ∀ d, CalOK P E (calR E F sp N d)
  | 0 => fun g args h K hk => hk.elim
  | d + 1 => fun g args h K hk w γ vs HH HG hz hp => by
    unfold calR at hk
    split at hk
    · rename_i fn hl
      obtain ⟨h1, h2⟩ := hF _ (lookN_mem hl)
      obtain ⟨hle, hk⟩ := gd_t hk
      have HE : EOK P (Erun E fn) := fun t ti ht => H t ti ht
      have HC : CalOK P (Erun E fn) (calR E F sp N d) := fun g a h K hk w γ vs h1 h2 h3 h4 => calR_ok H hm hF hs d g a h K hk w γ vs h1 (fun i l hi => h2 i l hi) h3 h4
      exact bodyR_ok HE HC (drawP_ok hm HE HC) h1 h2 hk rfl (Nat.le_of_ble_eq_true hle) HH (fun i l hi => HG i l hi) hz hp
    · exact tab_ok hs g args h K hk w γ vs HH HG hz hp
/-- A closed call's entry. -/
theorem closed_ok {P : Program} {E : Env} {F : List (Nat × Func)} {sp : List (Nat × Ent)} {N d : Nat} (H : EOK P E) (hm : P.follows .mixedOrders = true) (hF : ∀ p ∈ F, P.funcs[p.1]? = some p.2 ∧ ∀ (args : Array Value) (w : World), (callFunc p.1 args).run P w = .ok (.enter p.1 args) w) (hs : ∀ p ∈ sp, EntOK P E p.1 p.2)
    {g : FuncId} {b : Bool} (hr : ∀ K, calR E F sp N d g [] [] K = K [.lf (.d (.bool b))] []) : EntOK P E g fun args h K => tn args <| tn h (K [.lf (.d (.bool b))] []) := fun args h K hk w γ vs HH HG hz hp => by
  obtain ⟨rfl, hk1⟩ := tn_inv hk
  obtain ⟨rfl, hk2⟩ := tn_inv hk1
  exact calR_ok H hm hF hs d g [] [] K (by rw [hr]; exact hk2) w γ vs HH HG hz hp
end Go.Proofs.YtahlcbmmjfdcaaaGreatDoor.PX
