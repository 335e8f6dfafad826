/- PX, part 14: regions, code, functions. -/
import Derived.Test.YtahlcbmmjfdcaaaGreatDoorPXOp
import Derived.LoopN
import Derived.Tactics
set_option linter.all false
namespace Go.Proofs.YtahlcbmmjfdcaaaGreatDoor.PX
set_option linter.unusedVariables false
set_option linter.unusedSimpArgs false
section
variable {P : Program} {E : Env} {w : World} {γ : Gam} {h : List Obj}

/-! ### Slots -/
theorem put_rel {h' : List Obj} {w' : World} {γ' : Gam} {sl : List AV} {a : Act} {v : AV} {u : Value} (hs : SRel w h γ sl a.tmps) (st : Step w h γ w' h' γ') (hv : VRel w' h' γ' v u) (dst : Option Nat) :
    SRel w' h' γ' (match dst with | some d => sl.set d v | none => sl) (a.put dst u).tmps := by
  have h1 : SRel w' h' γ' sl a.tmps := hs.mono fun x y _ hxy => hxy.move st.fr st.evo
  cases dst with
  | none => exact h1
  | some d =>
    have := Pt.set h1 d hv
    show Pt _ (sl.set d v) (a.tmps.setIfInBounds d u).toList
    rw [Array.toList_setIfInBounds]
    exact this
theorem put_defers (a : Act) (dst : Option Nat) (u : Value) : (a.put dst u).defers = a.defers := by cases dst <;> rfl
theorem put_size (a : Act) (dst : Option Nat) (u : Value) : (a.put dst u).tmps.size = a.tmps.size := by cases dst <;> simp [Act.put]
theorem lit_rel {sl : List AV} {tmps : Array Value} {d : Nat} {b : Bool} (hs : SRel w h γ sl tmps) (hb : sl.getD d .un = .bool b) : SRel w h γ (sl.set d (.bool b)) tmps := by
  have : sl.set d (.bool b) = sl := by
    apply List.ext_getElem?
    intro j
    rw [List.getElem?_set]
    split
    · rename_i e
      subst e
      rw [List.getD_eq_getElem?_getD] at hb
      split
      · rename_i hl
        rw [List.getElem?_eq_getElem hl] at hb ⊢
        simp at hb
        rw [hb]
      · rename_i hl; rw [List.getElem?_eq_none (by omega)]
    · rfl
  rw [this]; exact hs
theorem slot_val {sl : List AV} {tmps : Array Value} {d : Nat} {b : Bool} (hs : SRel w h γ sl tmps) (hb : sl.getD d .un = .bool b) : tmps[d]? = some (.bool b) := by
  rw [List.getD_eq_getElem?_getD] at hb
  cases hx : sl[d]? with
  | none => rw [hx] at hb; cases hb
  | some v =>
    rw [hx] at hb
    simp at hb
    subst hb
    obtain ⟨u, hu, hr⟩ := hs.get hx
    cases hr
    rw [← Array.getElem?_toList]; exact hu
theorem guard_ok {ops : List Oper} {o : Oper} {s : St} {a : Act} {X Y : St → Prop} (hs : SRel w s.heap γ s.slots a.tmps) (hk : guardP ops o s X Y) :
    (Region.wanted o (yielded ops.toArray a.tmps) = true ∧ ∃ s', X s' ∧ s'.heap = s.heap ∧ s'.slots = s.slots) ∨ (Region.wanted o (yielded ops.toArray a.tmps) = false ∧ ∃ s', Y s' ∧ s'.heap = s.heap ∧ s'.slots = s.slots) := by
  unfold guardP at hk
  split at hk
  · rename_i hg
    exact .inl ⟨by simp [Region.wanted, hg], s, hk, rfl, rfl⟩
  · rename_i j want hg
    split at hk
    · rename_i d hd
      obtain ⟨x, hx, hk1⟩ := onD_inv hk
      unfold dB at hk1
      split at hk1
      · rename_i b
        have hv := slot_val hs hx
        have hy : yielded ops.toArray a.tmps j = some b := by
          unfold yielded
          rw [show (ops.toArray)[j]? = ops[j]? by simp, hd]
          simp [hv]
        have hl : ∀ b', b' = b → (lit s d b').heap = s.heap ∧ (lit s d b').slots = s.slots := fun b' e => by
          subst e
          refine ⟨rfl, ?_⟩
          have : s.slots.set d (.bool b') = s.slots := by
            apply List.ext_getElem?
            intro k
            rw [List.getElem?_set]
            split
            · rename_i e
              subst e
              rw [List.getD_eq_getElem?_getD] at hx
              split
              · rename_i hl
                rw [List.getElem?_eq_getElem hl] at hx ⊢
                simp at hx
                rw [hx]
              · rename_i hl; rw [List.getElem?_eq_none (by omega)]
            · rfl
          exact this
        have hw : Region.wanted o (yielded ops.toArray a.tmps) = (b == want) := by
          simp only [Region.wanted, hg, hy]
          rfl
        rw [hw]
        cases b <;> cases want <;> simp only [br] at hk1
        · exact .inl ⟨rfl, _, hk1, hl false rfl⟩
        · exact .inr ⟨rfl, _, hk1, hl false rfl⟩
        · exact .inr ⟨rfl, _, hk1, hl true rfl⟩
        · exact .inl ⟨rfl, _, hk1, hl true rfl⟩
      · exact hk1.elim
    · exact hk.elim
abbrev NextR (w : World) (h : List Obj) (γ : Gam) (a : Act) (K : St → Prop) (Q : Exit → Act → World → Prop) : Prop :=
  ∀ s' w' γ' a', K s' → Step w h γ w' s'.heap γ' → SRel w' s'.heap γ' s'.slots a'.tmps → a'.defers = a.defers → a'.tmps.size = a.tmps.size → Q .normal a' w'
theorem reg_ok {cal : Cal} (H : EOK P E) (HC : CalOK P E cal) {ops : Array Oper} {Q : Exit → Act → World → Prop} : ∀ {l : List Oper} {s : St} {K : St → Prop} {w : World} {γ : Gam} {a : Act}, regP E cal ops.toList l s K → HRel w s.heap γ → SRel w s.heap γ s.slots a.tmps → GRel E w (Ro w s.heap γ) →
    NextR w s.heap γ a K Q → wpList P ops Q l a w
  | [], s, K, w, γ, a, hk, HH, HS, HG, hn => hn s w γ a hk (Step.refl HH) HS rfl rfl
  | o :: l, s, K, w, γ, a, hk, HH, HS, HG, hn => by
    have hg := guard_ok HS hk
    rw [Array.toArray_toList] at hg
    rcases hg with ⟨hw, s', hk1, h1, h2⟩ | ⟨hw, s', hk1, h1, h2⟩
    · simp only [wpList, hw, if_true]
      refine .inl ?_
      obtain ⟨sl, hp⟩ := s
      obtain ⟨sl', hp'⟩ := s'
      simp only at h1 h2 HH HS HG hn
      subst h1; subst h2
      refine op_ok H HC (s := ⟨sl', hp'⟩) HH HS HG hk1 fun v h' u w' γ' hK hv st => ?_
      exact reg_ok H HC (s := put ⟨sl', hp'⟩ o.dst v h') hK st.rel (put_rel HS st hv o.dst) (HG.mono st.fr.ro) fun s2 w2 γ2 a2 hK2 st2 hs2 hd2 hl2 =>
        hn s2 w2 γ2 a2 hK2 (st.trans st2) hs2 (hd2.trans (put_defers a o.dst u)) (hl2.trans (put_size a o.dst u))
    · simp only [wpList, hw, Bool.false_eq_true, if_false]
      obtain ⟨sl, hp⟩ := s
      obtain ⟨sl', hp'⟩ := s'
      simp only at h1 h2 HH HS HG hn
      subst h1; subst h2
      have st := Step.refl HH
      exact reg_ok H HC (s := put ⟨sl', hp'⟩ o.dst .un hp') hk1 HH (put_rel HS st (v := .un) (u := undef) trivial o.dst) HG fun s2 w2 γ2 a2 hK2 st2 hs2 hd2 hl2 =>
        hn s2 w2 γ2 a2 hK2 st2 hs2 (hd2.trans (put_defers a o.dst undef)) (hl2.trans (put_size a o.dst undef))

/-! ### Ahead of a region -/
theorem ownNil_ok {s : List AV × List Obj} {tmps : Array Value} (HH : HRel w s.2 γ) (HS : SRel w s.2 γ s.1 tmps) (c : Nat × Nat) :
    ∃ γ', Step w s.2 γ w (ownNil s c).2 γ' ∧ SRel w (ownNil s c).2 γ' (ownNil s c).1 tmps := by
  unfold ownNil
  split
  · rename_i sz hx
    have st := Step.newNil HH sz
    obtain ⟨u, hu, hr⟩ := HS.get hx
    refine ⟨_, st, ?_⟩
    have hset := (HS.mono fun a b _ hab => hab.move st.fr st.evo).set c.1 (a := .lf (.rw s.2.length 0)) (b := u) ?_
    · rwa [show tmps.toList.set c.1 u = tmps.toList from by
        apply List.ext_getElem?
        intro j
        rw [List.getElem?_set]
        split
        · rename_i e; subst e; rw [hu]; simp only [(List.getElem?_eq_some_iff.1 hu).1, if_true]
        · rfl] at hset
    · cases hr with
      | sl us h1 h2 h3 =>
        obtain ⟨rfl, _, rfl⟩ := h3 rfl
        refine ⟨rfl, by simp, fun sz' es k ho => ?_⟩
        simp at ho
        obtain ⟨rfl, rfl, rfl⟩ := ho
        refine ⟨Nat.le_refl _, fun _ => ?_⟩
        unfold RowV
        rw [upd_same]
        exact ⟨rfl, rfl, none, rfl⟩
  · exact ⟨γ, Step.refl HH, HS⟩
theorem ownNils_ok : ∀ {cs : List (Nat × Nat)} {s : List AV × List Obj} {γ : Gam} {tmps : Array Value}, HRel w s.2 γ → SRel w s.2 γ s.1 tmps →
    ∃ γ', Step w s.2 γ w (cs.foldl ownNil s).2 γ' ∧ SRel w (cs.foldl ownNil s).2 γ' (cs.foldl ownNil s).1 tmps
  | [], s, γ, tmps, HH, HS => ⟨γ, Step.refl HH, HS⟩
  | c :: cs, s, γ, tmps, HH, HS => by
    obtain ⟨γ1, st, hp1⟩ := ownNil_ok HH HS c
    obtain ⟨γ2, st2, hp2⟩ := ownNils_ok (cs := cs) st.rel hp1
    exact ⟨γ2, st.trans st2, hp2⟩
theorem get_rel {sl : List AV} {tmps : Array Value} (hs : SRel w h γ sl tmps) (t : Nat) : VRel w h γ (sl.getD t .un) (tmps.getD t undef) := by
  cases hx : sl[t]? with
  | none => rw [List.getD_eq_getElem?_getD, hx]; trivial
  | some v =>
    obtain ⟨u, hu, hv⟩ := hs.get hx
    rw [List.getD_eq_getElem?_getD, hx, Array.getD_eq_getD_getElem?, ← Array.getElem?_toList, hu]
    exact hv
theorem pick_rel {sl : List AV} {tmps : Array Value} (hs : SRel w h γ sl tmps) : ∀ (live : List Nat), Pt (VRel w h γ) (pickL live sl) (live.map fun i => tmps.getD i undef)
  | [] => Pt.nil
  | i :: live => Pt.cons (get_rel hs i) (pick_rel hs live)
theorem setD_rel {sl : List AV} {tmps : Array Value} {i : Nat} {v : AV} (hs : SRel w h γ sl tmps) (hv : VRel w h γ v (tmps.getD i undef)) : SRel w h γ (sl.set i v) tmps := by
  refine ⟨by rw [List.length_set]; exact hs.1, fun j x y hx hy => ?_⟩
  rw [List.getElem?_set] at hx
  split at hx
  · rename_i e
    subst e
    split at hx
    · simp at hx
      subst hx
      rw [Array.getD_eq_getD_getElem?, ← Array.getElem?_toList, hy] at hv
      exact hv
    · simp at hx
  · exact hs.2 j x y hx hy
theorem spreadGo_rel {tmps : Array Value} : ∀ (live : List Nat) (vs sl : List AV), SRel w h γ sl tmps → Pt (VRel w h γ) vs (live.map fun i => tmps.getD i undef) → SRel w h γ (spreadGo live vs sl) tmps
  | [], vs, sl, hs, hp => by
    have : spreadGo [] vs sl = sl := by cases vs <;> rfl
    rw [this]; exact hs
  | i :: live, [], sl, hs, hp => hs
  | i :: live, v :: vs, sl, hs, hp => by
    obtain ⟨u, us, he, hu, hp2⟩ := hp.inv
    rw [List.map_cons, List.cons.injEq] at he
    obtain ⟨rfl, rfl⟩ := he
    exact spreadGo_rel live vs (sl.set i v) (setD_rel hs hu) hp2
theorem spread_rel {tmps : Array Value} {live : List Nat} {vs : List AV} (hp : Pt (VRel w h γ) vs (live.map fun i => tmps.getD i undef)) : SRel w h γ (spread tmps.size live vs) tmps := by
  refine spreadGo_rel _ _ _ ⟨by simp, fun i x y hx hy => ?_⟩ hp
  have := List.eq_of_mem_replicate (List.mem_of_getElem? hx)
  subst this
  trivial
theorem VRel.ren {h' : List Obj} {γ' : Gam} {ρ ν : Nat → Nat} {fl : Bool} (c : Carry w h γ h' γ' fl) {x : AV} {u : Value} (hs : ∀ i ∈ refsA x, Moved h γ h' γ' ρ ν i) (hf : fl = false) (hr : VRel w h γ x u) : VRel w h' γ' (renA h ρ ν x) u := by
  subst hf
  cases x with
  | one t => exact TRel.ren c hs (fun e => by cases e) hr
  | tup l =>
    obtain ⟨cs, rfl, hp⟩ := hr
    exact ⟨cs, rfl, Pt.map_left _ (hp.mono fun x y hx hxy => hxy.ren c (fun i hi => hs i (List.mem_flatMap.2 ⟨x, hx, hi⟩)) fun e => by cases e)⟩
  | un => trivial
theorem oe_cap {w0 : World} {h' : List Obj} {γ0 γ' : Gam} {ρ : Nat → Nat} {m i : Nat} {wide : Bool} {o o1 : Obj} (e : OE w0 γ0 w γ i o o1) (hz : verO o = 0) (hg : γ' i = γ i) (hi : i < m) (ho : h.getD i .dead = o1) : OE w0 γ0 w γ' i o (renO h ρ (capV m wide h) i o1) := by
  rcases e with e | e
  · exact .inl (by rw [dead_ren]; exact e)
  · cases o <;> cases o1 <;> first | exact e.elim | skip
    · exact .inr (hg.trans e)
    · obtain ⟨e1, e2⟩ := e
      simp only [verO] at hz
      subst hz
      refine .inr ⟨e1, ?_⟩
      have hb : Nat.blt i m = true := by rw [Nat.blt_eq]; exact hi
      simp only [capV, hb, cond_true]
      cases wide with
      | true => exact .inl (by simp)
      | false =>
        simp only [cond_false, verA, ho, verO]
        rcases e2 with e2 | ⟨rfl, e3, e4, e5⟩
        · rename_i v; cases v with
          | zero => omega
          | succ v => exact .inl (by simp)
        · exact .inr ⟨rfl, hg.trans e3, e4, e5⟩
    · exact .inr (hg.trans e)
    · exact .inr ⟨e.1, hg.trans e.2⟩
    · exact .inr (hg.trans e)
/-- Since the call began. -/
structure Body (E : Env) (w0 : World) (h0 : List Obj) (γ0 : Gam) (s : St) (a : Act) (w : World) (γ : Gam) : Prop where
  st : Step w0 h0 γ0 w s.heap γ
  sr : SRel w s.heap γ s.slots a.tmps
  df : a.defers = []
  n : a.tmps.size = E.n
theorem pack_step {w0 : World} {h0 : List Obj} {γ0 : Gam} (hz : ∀ o ∈ h0, verO o = 0) (st : Step w0 h0 γ0 w h γ) {roots ids : List Nat} (C : Closed h roots ids) (hf : firsts h0.length ids = true) (wide : Bool) :
    Step w0 h0 γ0 w (packO h (capV h0.length wide h) ids) (gPack γ ids γ.X) := by
  obtain ⟨hr, hc⟩ := hrel_pack (ν := capV h0.length wide h) st.rel C (X := γ.X) (fun b hx => hx) (fun b hx => .inl hx)
  refine ⟨hr, ⟨st.fr.os, st.fr.tape, st.fr.output, st.fr.size, st.fr.block, fun b hw => ?_, st.fr.X⟩, fun i o ho => ?_⟩
  · obtain ⟨i, o, p, _, ho, hd, hg⟩ := wr_pack C hw
    exact st.fr.wr b ⟨i, o, p, ho, hd, hg⟩
  · have hi := (List.getElem?_eq_some_iff.1 ho).1
    obtain ⟨o1, ho1, he⟩ := st.evo i o ho
    have hx := firsts_inv hf hi
    refine ⟨_, pack_at hx, ?_⟩
    rw [getD_of ho1]
    refine oe_cap (h' := h) he (hz o (List.mem_of_getElem? ho)) ?_ hi (getD_of ho1)
    show γ (ids.getD i 0) = γ i
    rw [List.getD_eq_getElem?_getD, hx]; rfl
/-- At a loop's head. -/
structure Head (E : Env) (w0 : World) (h0 : List Obj) (γ0 : Gam) (id : Nat) (vs : List AV) (h : List Obj) (a : Act) (w : World) (γ : Gam) : Prop where
  st : Step w0 h0 γ0 w h γ
  vals : Pt (VRel w h γ) vs ((liveOf E id).map fun i => a.tmps.getD i undef)
  df : a.defers = []
  n : a.tmps.size = E.n
theorem Head.body {w0 : World} {h0 : List Obj} {γ0 : Gam} {id : Nat} {vs : List AV} {a : Act} (A : Head E w0 h0 γ0 id vs h a w γ) : Body E w0 h0 γ0 ⟨spread E.n (liveOf E id) vs, h⟩ a w γ :=
  ⟨A.st, by have := spread_rel A.vals; rwa [A.n] at this, A.df, A.n⟩
theorem norm_ok {w0 : World} {h0 : List Obj} {γ0 : Gam} (hz : ∀ o ∈ h0, verO o = 0) {id : Nat} {s : St} {K : List AV → List Obj → Prop} (hk : normP E id h0.length s K) {a : Act} (B : Body E w0 h0 γ0 s a w γ) : ∃ vs h γ', K vs h ∧ Head E w0 h0 γ0 id vs h a w γ' := by
  unfold normP at hk
  split at hk
  · exact hk.elim
  · rename_i live own wide hadv
    obtain ⟨γ1, st1, hs1⟩ := ownNils_ok (cs := own) (s := (s.slots, s.heap)) B.st.rel B.sr
    generalize hfold : own.foldl ownNil (s.slots, s.heap) = r at hk st1 hs1
    obtain ⟨sl, h1⟩ := r
    simp only at hk st1 hs1
    obtain ⟨hb, hk1⟩ := br_t hk
    simp only [Bool.and_eq_true] at hb
    have C := closed_inv hb.1
    have hs2 := pick_rel hs1 live
    obtain ⟨hr, hc⟩ := hrel_pack (ν := capV h0.length wide h1) st1.rel C (X := γ1.X) (fun b hx => hx) (fun b hx => .inl hx)
    refine ⟨_, _, gPack γ1 _ γ1.X, hk1, ⟨pack_step hz (B.st.trans st1) C hb.2 wide, ?_, B.df, B.n⟩⟩
    rw [show liveOf E id = live by unfold liveOf; rw [hadv]]
    refine Pt.map_left _ (hs2.mono fun x y hx hxy => hxy.ren hc (fun i hi => moved_pack C (C.roots i ?_)) rfl)
    exact List.mem_append_right _ (List.mem_flatMap.2 ⟨x, hx, hi⟩)

/-! ### Code -/
def exRel : Ex → Exit → Prop
  | .normal, .normal => True
  | .exit i, .exit j => i = j
  | .ret, .ret => True
  | _, _ => False
def Post (E : Env) (w0 : World) (h0 : List Obj) (γ0 : Gam) (K : Ex → St → Prop) (e : Exit) (a : Act) (w : World) : Prop := ∃ x s γ, exRel x e ∧ K x s ∧ Body E w0 h0 γ0 s a w γ
def DrawOK (P : Program) (E : Env) (drawP : List Oper → St → (St → Prop) → Prop) : Prop := ∀ (ops : Array Oper) (s : St) (K : St → Prop), drawP ops.toList s K → ∀ (id : Nat) (w : World) (γ : Gam) (a : Act) (Q : Exit → Act → World → Prop),
  HRel w s.heap γ → SRel w s.heap γ s.slots a.tmps → GRel E w (Ro w s.heap γ) → NextR w s.heap γ a K Q → (Code.region id ops true).wp P Q a w
theorem litC_body {w0 : World} {h0 : List Obj} {γ0 : Gam} {s : St} {a : Act} {c : Operand} {b : Bool} (B : Body E w0 h0 γ0 s a w γ) (hb : ev E s.slots c = .bool b) : Body E w0 h0 γ0 (litC c s b) a w γ := by
  cases c with
  | tmp d => exact ⟨B.st, lit_rel B.sr hb, B.df, B.n⟩
  | _ => exact B
theorem forget_body {w0 : World} {h0 : List Obj} {γ0 : Gam} {s : St} {a : Act} (B : Body E w0 h0 γ0 s a w γ) (live : List Nat) : Body E w0 h0 γ0 (forget E live s) a w γ :=
  have ks := kill_step (ids := lost E.m (pickL live s.slots) s.heap) B.st.rel
  ⟨B.st.trans ks, by
    have := spread_rel (pick_rel B.sr live)
    rw [B.n] at this
    exact this.mono fun x y _ hxy => hxy.move ks.fr ks.evo, B.df, B.n⟩
theorem KF_post {w0 : World} {h0 : List Obj} {γ0 : Gam} {id : Nat} {K : Ex → St → Prop} {e : Exit} {a : Act} {w : World} (h : Post E w0 h0 γ0 (KF E id K) e a w) : Post E w0 h0 γ0 K e a w := by
  obtain ⟨ex, s, γ, he, hK, B⟩ := h
  cases ex with
  | normal =>
    refine ⟨.normal, _, γ, he, hK, ?_⟩
    unfold forgetX
    split
    · exact forget_body B _
    · exact B
  | exit i => exact ⟨.exit i, s, γ, he, hK, B⟩
  | ret => exact ⟨.ret, s, γ, he, hK, B⟩
theorem enter_ok {w0 : World} {h0 : List Obj} {γ0 : Gam} (hz : ∀ o ∈ h0, verO o = 0) {lp : Lps} {c : Code} {ex : St → (Ex → St → Prop) → Prop} (hc : CutOK E lp c ex) {s : St} {K : Ex → St → Prop} {a : Act} (hk : enterP E lp h0.length c ex s K) (B : Body E w0 h0 γ0 s a w γ) :
    ∃ s' γ', (ex s' K ∨ ex s' (KF E (cutId c) K)) ∧ Body E w0 h0 γ0 s' a w γ' := by
  unfold enterP at hk
  split at hk
  · exact ⟨s, γ, .inl hk, B⟩
  · rename_i x hx
    obtain ⟨vs, h1, γ1, hk1, A⟩ := norm_ok hz hk B
    exact ⟨_, γ1, .inr (hc (by rw [hx]; simp) vs h1 K hk1), A.body⟩
theorem exec_ok {cal : Cal} {lp : Lps} {drawP : List Oper → St → (St → Prop) → Prop} (H : EOK P E) (HC : CalOK P E cal) (HD : DrawOK P E drawP) {w0 : World} {h0 : List Obj} {γ0 : Gam} (hz : ∀ o ∈ h0, verO o = 0) (HG : GRel E w0 (Ro w0 h0 γ0)) :
    ∀ (c : Code), LoopsOK E cal lp drawP h0.length c → ∀ {s : St} {K : Ex → St → Prop} {w : World} {γ : Gam} {a : Act}, execP E cal lp drawP h0.length c s K → Body E w0 h0 γ0 s a w γ → c.wp P (Post E w0 h0 γ0 K) a w
  | .skip, _, s, K, w, γ, a, hk, B => wp_skip ⟨.normal, s, γ, trivial, hk, B⟩
  | .label l, _, s, K, w, γ, a, hk, B => wp_label ⟨.normal, s, γ, trivial, hk, B⟩
  | .region id ops draw, _, s, K, w, γ, a, hk, B => by
    have nx : NextR w s.heap γ a (K .normal) (Post E w0 h0 γ0 K) := fun s' w' γ' a' hK st hs hd hl =>
      ⟨.normal, s', γ', trivial, hK, B.st.trans st, hs, hd.trans B.df, hl.trans B.n⟩
    simp only [execP] at hk
    cases draw with
    | true => exact HD _ _ _ hk id w γ a _ B.st.rel B.sr (HG.mono B.st.fr.ro) nx
    | false => exact wp_region_list (reg_ok H HC hk B.st.rel B.sr (HG.mono B.st.fr.ro) nx)
  | .seq x y, L, s, K, w, γ, a, hk, B => by
    refine wp_seq (Code.wp_mono ?_ (exec_ok H HC HD hz HG x L.1 hk B))
    rintro e a1 w1 ⟨ex, s1, γ1, he, hK, B1⟩
    cases ex with
    | normal =>
      cases e <;> first | exact he.elim | skip
      obtain ⟨s2, γ2, hK2, B2⟩ := enter_ok hz L.2.2 hK B1
      rcases hK2 with hK2 | hK2
      · exact exec_ok H HC HD hz HG y L.2.1 hK2 B2
      · exact Code.wp_mono (fun e a w h => KF_post h) (exec_ok H HC HD hz HG y L.2.1 hK2 B2)
    | exit i =>
      cases e <;> first | exact he.elim | skip
      exact ⟨.exit i, s1, γ1, he, hK, B1⟩
    | ret =>
      cases e <;> first | exact he.elim | skip
      exact ⟨.ret, s1, γ1, trivial, hK, B1⟩
  | .cond c x y, L, s, K, w, γ, a, hk, B => by
    have hG := HG.mono B.st.fr.ro
    simp only [execP] at hk
    obtain ⟨b, hb1, hb2, hk1⟩ := asB_inv hk (ev_rel B.sr hG c)
    cases b with
    | true =>
      obtain ⟨s2, γ2, hK2, B2⟩ := enter_ok hz L.2.2.1 hk1 (litC_body B hb1)
      rcases hK2 with hK2 | hK2
      · exact wp_cond_true hb2 (exec_ok H HC HD hz HG x L.1 hK2 B2)
      · exact wp_cond_true hb2 (Code.wp_mono (fun e a w h => KF_post h) (exec_ok H HC HD hz HG x L.1 hK2 B2))
    | false =>
      obtain ⟨s2, γ2, hK2, B2⟩ := enter_ok hz L.2.2.2 hk1 (litC_body B hb1)
      rcases hK2 with hK2 | hK2
      · exact wp_cond_false hb2 (exec_ok H HC HD hz HG y L.2.1 hK2 B2)
      · exact wp_cond_false hb2 (Code.wp_mono (fun e a w h => KF_post h) (exec_ok H HC HD hz HG y L.2.1 hK2 B2))
  | .block id c, L, s, K, w, γ, a, hk, B => by
    refine wp_block (Code.wp_mono ?_ (exec_ok H HC HD hz HG c L hk B))
    rintro e a1 w1 ⟨ex, s1, γ1, he, hK, B1⟩
    cases ex with
    | normal =>
      cases e <;> first | exact he.elim | skip
      exact ⟨.normal, s1, γ1, trivial, hK, B1⟩
    | exit i =>
      cases e <;> first | exact he.elim | skip
      rename_i j
      obtain rfl : i = j := he
      simp only at hK
      by_cases hi : i = id
      · subst hi
        simp only [Nat.beq_refl] at hK
        simp only [Exit.inBlock, if_true]
        exact ⟨.normal, s1, γ1, trivial, hK, B1⟩
      · have : Nat.beq i id = false := by
          cases hb : Nat.beq i id with
          | false => rfl
          | true => exact absurd (Nat.eq_of_beq_eq_true hb) hi
        rw [this] at hK
        simp only [Exit.inBlock, if_neg hi]
        exact ⟨.exit i, s1, γ1, rfl, hK, B1⟩
    | ret =>
      cases e <;> first | exact he.elim | skip
      exact ⟨.ret, s1, γ1, trivial, hK, B1⟩
  | .loop c, L, s, K, w, γ, a, hk, B => by
    simp only [execP] at hk
    obtain ⟨vs, h1, γ1, hk1, A⟩ := norm_ok hz hk B
    obtain ⟨k, hk2⟩ := L.1 _ _ _ hk1
    refine wp_loop_rounds k ?_
    have key : ∀ (k : Nat) (vs : List AV) (h : List Obj) (w : World) (γ : Gam) (a : Act), iterP E h0.length (lid c) (execP E cal lp drawP h0.length c) k vs h K → Head E w0 h0 γ0 (lid c) vs h a w γ → Code.rounds P c (Post E w0 h0 γ0 K) k a w := by
      intro k
      induction k with
      | zero => intro vs h w γ a hk A; exact hk.elim
      | succ k ih =>
        intro vs h w γ a hk A
        refine Code.wp_mono ?_ (exec_ok H HC HD hz HG c L.2 hk A.body)
        rintro e a1 w1 ⟨ex, s1, γ1, he, hK, B1⟩
        cases ex with
        | normal =>
          cases e <;> first | exact he.elim | skip
          obtain ⟨vs2, h2, γ2, hk2, A2⟩ := norm_ok hz hK B1
          exact ih _ _ _ _ _ hk2 A2
        | exit i =>
          cases e <;> first | exact he.elim | skip
          exact ⟨.exit i, s1, γ1, he, hK, B1⟩
        | ret =>
          cases e <;> first | exact he.elim | skip
          exact ⟨.ret, s1, γ1, trivial, hK, B1⟩
    exact key k vs h1 w γ1 a hk2 A
  | .exit id, _, s, K, w, γ, a, hk, B => by
    refine wp_exit ⟨.exit id, _, γ, rfl, hk, ?_⟩
    unfold forgetX
    split
    · exact forget_body B _
    · exact B
  | .ret, _, s, K, w, γ, a, hk, B => wp_ret ⟨.ret, _, γ, trivial, hk, forget_body B _⟩
  | .rangeFunc .., _, s, K, w, γ, a, hk, B => hk.elim
  | .scope _, _, s, K, w, γ, a, hk, B => hk.elim
  | .goto _, _, s, K, w, γ, a, hk, B => hk.elim
  | .refuse _, _, s, K, w, γ, a, hk, B => hk.elim
end
end Go.Proofs.YtahlcbmmjfdcaaaGreatDoor.PX
