/- PX, part 18: drawn regions: the proof. -/
import Derived.Test.YtahlcbmmjfdcaaaGreatDoorPXDraw
set_option linter.all false
namespace Go.Proofs.YtahlcbmmjfdcaaaGreatDoor.PX
set_option linter.unusedVariables false
set_option linter.unusedSimpArgs false

theorem lit_self {s : St} {d : Nat} {b : Bool} (hx : s.slots.getD d .un = .bool b) : lit s d b = s := by
  obtain ⟨sl, h⟩ := s
  have : sl.set d (.bool b) = sl := by
    apply List.ext_getElem?
    intro k
    rw [List.getElem?_set]
    split
    · rename_i e
      subst e
      simp only at hx
      rw [List.getD_eq_getElem?_getD] at hx
      split
      · rename_i hl
        rw [List.getElem?_eq_getElem hl] at hx ⊢
        simp at hx
        rw [hx]
      · rename_i hl; rw [List.getElem?_eq_none (by omega)]
    · rfl
  simp only [lit, this]
/-- Is the operation wanted? -/
def WG (l : List Oper) (o : Oper) (sl : List AV) (flag : Bool) : Prop :=
  match o.guard with
  | none => flag = true
  | some (g, w) => ∃ d b, dstOf l g = some d ∧ sl.getD d .un = .bool b ∧ flag = (b == w)
theorem guardP_inv {l : List Oper} {o : Oper} {s : St} {X Y : St → Prop} (hk : guardP l o s X Y) : (WG l o s.slots true ∧ X s) ∨ (WG l o s.slots false ∧ Y s) := by
  unfold guardP at hk
  unfold WG
  split at hk
  · rename_i hg; rw [hg]; exact .inl ⟨rfl, hk⟩
  · rename_i j want hg
    rw [hg]
    split at hk
    · rename_i d hd
      obtain ⟨x, hx, hk1⟩ := onD_inv hk
      unfold dB at hk1
      split at hk1
      · rename_i b
        have hl : lit s d b = s := lit_self hx
        cases b <;> cases want <;> simp only [br] at hk1 <;> rw [hl] at hk1
        · exact .inl ⟨⟨d, false, hd, hx, rfl⟩, hk1⟩
        · exact .inr ⟨⟨d, false, hd, hx, rfl⟩, hk1⟩
        · exact .inr ⟨⟨d, true, hd, hx, rfl⟩, hk1⟩
        · exact .inl ⟨⟨d, true, hd, hx, rfl⟩, hk1⟩
      · exact hk1.elim
    · exact hk.elim
section
variable {P : Program} {E : Env} {cal : Cal} {l : List Oper} {A : List Nat}
def lst (listed : Array Bool) (i : Nat) : Prop := listed.getD i false = true
/-- These slots, seen by x: what x will find in its own operands. -/
def Seen (l : List Oper) (A : List Nat) (s0 : List AV) (sc : List AV) (x : Nat) (o : Oper) (sl : List AV) : Prop :=
  sl.length = sc.length ∧ ∀ t ∈ opnds o, (∀ y, (A.getD x 0).testBit y = true → dstOf l y = some t → sl.getD t .un = sc.getD t .un) ∧ ((∀ y, (A.getD x 0).testBit y = true → dstOf l y ≠ some t) → sl.getD t .un = s0.getD t .un)
def Fact (E : Env) (cal : Cal) (l : List Oper) (A : List Nat) (s0 : List AV) (pend : List Pd) (sc : St) (x : Nat) (o : Oper) : Prop :=
  (WG l o sc.slots true ∧ ∃ p ∈ pend, p.i = x ∧ Seen l A s0 sc.slots x o p.sl ∧ (∀ K' : AV → List Obj → Prop, K' p.v sc.heap → opP E cal o ⟨p.sl, sc.heap⟩ K') ∧ ∀ d y, o.dst = some d → sc.slots[d]? = some y → y = p.v) ∨
  (WG l o sc.slots false ∧ ∀ d y, o.dst = some d → sc.slots[d]? = some y → y = .un)
/-- The state that has been told of, and the one that is there. -/
structure DInv (E : Env) (cal : Cal) (l : List Oper) (A : List Nat) (s0 : List AV) (w0 : World) (h0 : List Obj) (γ0 : Gam) (a0 : Act) (listed : Array Bool) (L : Nat) (pend : List Pd) (sc : St) (a : Act) (w : World) (γ : Gam) : Prop where
  lsz : listed.size = l.length
  sub : ∀ i, lst listed i → L.testBit i = true
  lt : ∀ i, L.testBit i = true → i < l.length
  cls : ∀ (i : Nat) (o : Oper), l[i]? = some o → lst listed i → ∀ j ∈ edges o, lst listed j
  lcc : ∀ (i : Nat) (o : Oper), l[i]? = some o → L.testBit i = true → ∀ b, (A.getD i 0).testBit b = true → L.testBit b = true
  pnd : ∀ (i : Nat) (o : Oper), l[i]? = some o → L.testBit i = true → ¬ lst listed i → plainOp E o = true ∧ Fact E cal l A s0 pend sc i o
  ls0 : sc.slots.length = s0.length
  lsc : sc.slots.length = a.tmps.size
  val : ∀ t, (∀ y, L.testBit y = true → dstOf l y ≠ some t) → sc.slots[t]? = s0[t]?
  rel0 : ∀ t v u, a.tmps[t]? = some u → (∃ y, L.testBit y = true ∧ ¬ lst listed y ∧ dstOf l y = some t) → s0[t]? = some v → VRel w sc.heap γ v u
  rel1 : ∀ t v u, a.tmps[t]? = some u → (∀ y, L.testBit y = true → dstOf l y = some t → lst listed y) → sc.slots[t]? = some v → VRel w sc.heap γ v u
  st : Step w0 h0 γ0 w sc.heap γ
  df : a.defers = a0.defers
  sz : a.tmps.size = a0.tmps.size
variable {s0 : List AV} {w0 : World} {h0 : List Obj} {γ0 : Gam} {a0 : Act} {listed : Array Bool} {L : Nat} {pend : List Pd} {sc : St} {a : Act} {w : World} {γ : Gam}
/-- Slots for one operation. -/
theorem mkS {h : List Obj} {o : Oper} {V : List AV} (hl : V.length = a.tmps.size) (hv : ∀ t ∈ opnds o, ∀ u, a.tmps[t]? = some u → VRel w h γ (V.getD t .un) u) : ∃ S : List AV, SRel w h γ S a.tmps ∧ ∀ t ∈ opnds o, S.getD t .un = V.getD t .un := by
  refine ⟨(List.range a.tmps.size).map fun t => if t ∈ opnds o then V.getD t .un else .un, ⟨by simp, fun i x y hx hy => ?_⟩, fun t ht => ?_⟩
  · rw [List.getElem?_map] at hx
    obtain ⟨t, ht, rfl⟩ := Option.map_eq_some_iff.1 hx
    have hi : i < a.tmps.size := by have := (List.getElem?_eq_some_iff.1 ht).1; simpa using this
    rw [List.getElem?_range hi] at ht
    simp at ht
    subst ht
    rw [Array.getElem?_toList] at hy
    by_cases hm : i ∈ opnds o
    · rw [if_pos hm]; exact hv i hm y hy
    · rw [if_neg hm]; trivial
  · rw [List.getD_eq_getElem?_getD, List.getElem?_map]
    by_cases hi : t < a.tmps.size
    · rw [List.getElem?_range hi]
      simp only [Option.map_some, Option.getD_some, if_pos ht]
    · rw [List.getElem?_eq_none (by simp; omega), List.getD_eq_getElem?_getD, List.getElem?_eq_none (by omega)]
      rfl
theorem getD_some {α : Type} {l : List α} {i : Nat} {d x : α} (h : l[i]? = some x) : l.getD i d = x := by rw [List.getD_eq_getElem?_getD, h]; rfl
theorem getD_get {V : List AV} {t : Nat} (hl : V.length = a.tmps.size) {u : Value} (hu : a.tmps[t]? = some u) : V[t]? = some (V.getD t .un) := by
  have : t < V.length := by rw [hl]; exact (Array.getElem?_eq_some_iff.1 hu).1
  rw [List.getD_eq_getElem?_getD, List.getElem?_eq_getElem this]; rfl
/-- What x reads, if all that must come ahead of it has been done. -/
theorem seen_rel (ok : OpsOK l A) (I : DInv E cal l A s0 w0 h0 γ0 a0 listed L pend sc a w γ) {x : Nat} {o : Oper} (ho : l[x]? = some o) (hx : ¬ lst listed x) (he : ∀ j ∈ edges o, lst listed j) {V : List AV} (hV : Seen l A s0 sc.slots x o V) :
    ∀ t ∈ opnds o, ∀ u, a.tmps[t]? = some u → VRel w sc.heap γ (V.getD t .un) u := by
  intro t ht u hu
  have hanc : ∀ b, (A.getD x 0).testBit b = true → lst listed b := anc_closed ok I.cls x o ho he
  by_cases hy : ∃ y, (A.getD x 0).testBit y = true ∧ dstOf l y = some t
  · obtain ⟨y, hy1, hy2⟩ := hy
    rw [(hV.2 t ht).1 y hy1 hy2]
    refine I.rel1 t _ u hu (fun y' _ h' => ?_) (getD_get I.lsc hu)
    rw [ok.dst y' y t h' hy2]; exact hanc y hy1
  · have hn : ∀ y, (A.getD x 0).testBit y = true → dstOf l y ≠ some t := fun y h1 h2 => hy ⟨y, h1, h2⟩
    rw [(hV.2 t ht).2 hn]
    have hs0 : s0[t]? = some (s0.getD t .un) := getD_get (by rw [← I.ls0]; exact I.lsc) hu
    by_cases hz : ∃ y, L.testBit y = true ∧ dstOf l y = some t
    · obtain ⟨y, hy1, hy2⟩ := hz
      refine I.rel0 t _ u hu ⟨y, hy1, fun hl => ?_, hy2⟩ hs0
      rcases ok.see x o y t ho ht hy2 with rfl | h1 | h1
      · exact hx hl
      · exact hn y h1 hy2
      · have hyl := I.lt y hy1
        have hoy : l[y]? = some l[y] := List.getElem?_eq_getElem hyl
        exact hx (anc_closed ok I.cls y _ hoy (I.cls y _ hoy hl) x h1)
    · have hv := I.val t fun y h1 h2 => hz ⟨y, h1, h2⟩
      refine I.rel1 t _ u hu (fun y h1 h2 => absurd ⟨y, h1, h2⟩ hz) (hv.trans hs0)
/-- Is it wanted? The same here and there. -/
theorem wanted_ok (I : DInv E cal l A s0 w0 h0 γ0 a0 listed L pend sc a w γ) (ok : OpsOK l A) {x : Nat} {o : Oper} (ho : l[x]? = some o) (he : ∀ j ∈ edges o, lst listed j) {flag : Bool} (hw : WG l o sc.slots flag) : Region.wanted o (yielded l.toArray a.tmps) = flag := by
  unfold WG at hw
  unfold Region.wanted
  split at hw
  · rename_i hg; rw [hg]; exact hw.symm
  · rename_i g want hg
    rw [hg]
    obtain ⟨d, b, hd, hb, rfl⟩ := hw
    have hgl := he g (ok.guard x o g want ho hg)
    have hdl : d < sc.slots.length := by
      rcases Nat.lt_or_ge d sc.slots.length with h | h
      · exact h
      · rw [List.getD_eq_getElem?_getD, List.getElem?_eq_none h] at hb; cases hb
    obtain ⟨u, hu⟩ : ∃ u, a.tmps[d]? = some u := ⟨_, Array.getElem?_eq_getElem (by rw [← I.lsc]; exact hdl)⟩
    have hr := I.rel1 d _ _ hu (fun y _ h' => by rw [ok.dst y g d h' hd]; exact hgl) (getD_get I.lsc hu)
    rw [hb] at hr
    have hv : a.tmps[d]? = some (.bool b) := by rw [hu]; cases hr; rfl
    have : yielded l.toArray a.tmps g = some b := by
      unfold yielded
      rw [show (l.toArray)[g]? = l[g]? by simp]
      unfold dstOf at hd
      rw [hd]
      simp [hv]
    simp only [this]
    rfl
theorem put_other {sc : St} {dst : Option Nat} {v : AV} {h : List Obj} {t : Nat} (ht : dst ≠ some t) : (put sc dst v h).slots[t]? = sc.slots[t]? := by
  cases dst with
  | none => rfl
  | some d =>
    show (sc.slots.set d v)[t]? = _
    rw [List.getElem?_set, if_neg fun e => ht (by rw [e])]
theorem put_at {sc : St} {dst : Option Nat} {v y : AV} {h : List Obj} {d : Nat} (hd : dst = some d) (hy : (put sc dst v h).slots[d]? = some y) : y = v := by
  subst hd
  have hy : (sc.slots.set d v)[d]? = some y := hy
  rw [List.getElem?_set, if_pos rfl] at hy
  split at hy
  · simp at hy; exact hy.symm
  · cases hy
theorem put_len {sc : St} {dst : Option Nat} {v : AV} {h : List Obj} : (put sc dst v h).slots.length = sc.slots.length := by cases dst <;> simp [put]
theorem wg_put (ok : OpsOK l A) {i x : Nat} {o o' : Oper} (ho : l[i]? = some o) (ho' : l[x]? = some o') (hg : ∀ j ∈ edges o', j ≠ i) {v : AV} {h : List Obj} {flag : Bool} (hw : WG l o' sc.slots flag) : WG l o' (put sc o.dst v h).slots flag := by
  unfold WG at *
  split at hw
  · exact hw
  · rename_i g want hgd
    obtain ⟨d, b, hd, hb, hf⟩ := hw
    refine ⟨d, b, hd, ?_, hf⟩
    have hne : o.dst ≠ some d := fun e => hg g (ok.guard x o' g want ho' hgd) (ok.dst g i d hd (by unfold dstOf; rw [ho]; exact e))
    rw [List.getD_eq_getElem?_getD, put_other hne, ← List.getD_eq_getElem?_getD]
    exact hb
theorem seen_put (ok : OpsOK l A) {i x : Nat} {o o' : Oper} (ho : l[i]? = some o) (hi : (A.getD x 0).testBit i = false) {v : AV} {h : List Obj} {V : List AV} (hs : Seen l A s0 sc.slots x o' V) : Seen l A s0 (put sc o.dst v h).slots x o' V := by
  refine ⟨hs.1.trans put_len.symm, fun t ht => ⟨fun y hy hd => ?_, (hs.2 t ht).2⟩⟩
  have hne : o.dst ≠ some t := fun e => by
    have := ok.dst i y t (by unfold dstOf; rw [ho]; exact e) hd
    subst this
    rw [hi] at hy; cases hy
  rw [(hs.2 t ht).1 y hy hd, List.getD_eq_getElem?_getD, List.getD_eq_getElem?_getD, put_other hne]
/-- What the next one sees: the slots as they are told. -/
theorem seen_next (ok : OpsOK l A) (I : DInv E cal l A s0 w0 h0 γ0 a0 listed L pend sc a w γ) {i : Nat} {o : Oper} (ho : l[i]? = some o) (hi : L.testBit i = false) : Seen l A s0 sc.slots i o sc.slots := by
  refine ⟨rfl, fun t ht => ⟨fun _ _ _ => rfl, fun hn => ?_⟩⟩
  have hv := I.val t fun y h1 h2 => by
    rcases ok.see i o y t ho ht h2 with rfl | h3 | h3
    · rw [hi] at h1; cases h1
    · exact hn y h3 h2
    · have hyl := I.lt y h1
      have := I.lcc y _ (List.getElem?_eq_getElem hyl) h1 i h3
      rw [hi] at this; cases this
  rw [List.getD_eq_getElem?_getD, List.getD_eq_getElem?_getD, hv]
theorem adv (ok : OpsOK l A) (I : DInv E cal l A s0 w0 h0 γ0 a0 listed L pend sc a w γ) {i : Nat} {o : Oper} (ho : l[i]? = some o) (hi : L.testBit i = false) (hanc : ∀ b, (A.getD i 0).testBit b = true → L.testBit b = true) (hp : plainOp E o = true) {v : AV} {pend' : List Pd}
    (hsub : ∀ p ∈ pend, p ∈ pend') (hf : (WG l o sc.slots true ∧ (⟨i, sc.slots, v⟩ : Pd) ∈ pend' ∧ ∀ K' : AV → List Obj → Prop, K' v sc.heap → opP E cal o sc K') ∨ (WG l o sc.slots false ∧ v = .un)) :
    DInv E cal l A s0 w0 h0 γ0 a0 listed (Nat.lor L (Nat.pow 2 i)) pend' (put sc o.dst v sc.heap) a w γ := by
  have hd : ∀ {t}, o.dst = some t → dstOf l i = some t := fun e => by unfold dstOf; rw [ho]; exact e
  have hne : ∀ {y t}, L.testBit y = true → dstOf l y = some t → o.dst ≠ some t := fun {y t} h1 h2 e => by
    have := ok.dst i y t (hd e) h2
    subst this
    rw [hi] at h1; cases h1
  have hnl : ¬ lst listed i := fun h => by have := I.sub i h; rw [hi] at this; cases this
  have hAi : (A.getD i 0).testBit i = false := by
    cases hb : (A.getD i 0).testBit i with
    | false => rfl
    | true => exact absurd (anc_lt ok ho hb) (by omega)
  refine ⟨I.lsz, fun j hj => tb_set.2 (.inl (I.sub j hj)), fun j hj => ?_, I.cls, fun j oj hoj hj b hb => ?_, fun j oj hoj hj hl => ?_, put_len.trans I.ls0, put_len.trans I.lsc, fun t ht => ?_, fun t v' u hu hy hv' => ?_, fun t v' u hu hy hv' => ?_, I.st, I.df, I.sz⟩
  · rcases tb_set.1 hj with h | rfl
    · exact I.lt j h
    · exact (List.getElem?_eq_some_iff.1 ho).1
  · rcases tb_set.1 hj with h | rfl
    · exact tb_set.2 (.inl (I.lcc j oj hoj h b hb))
    · exact tb_set.2 (.inl (hanc b hb))
  · rcases tb_set.1 hj with h | rfl
    · obtain ⟨h1, h2⟩ := I.pnd j oj hoj h hl
      have hji : j ≠ i := fun e => by subst e; rw [hi] at h; cases h
      have hedge : ∀ k ∈ edges oj, k ≠ i := fun k hk e => by
        subst e
        have := I.lcc j oj hoj h k ((ok.anc j oj hoj k).2 ⟨k, hk, .inl rfl⟩)
        rw [hi] at this; cases this
      have hAj : (A.getD j 0).testBit i = false := by
        cases hb : (A.getD j 0).testBit i with
        | false => rfl
        | true => have := I.lcc j oj hoj h i hb; rw [hi] at this; cases this
      refine ⟨h1, ?_⟩
      rcases h2 with ⟨g1, p, g2, g3, g4, g5, g6⟩ | ⟨g1, g2⟩
      · exact .inl ⟨wg_put ok ho hoj hedge g1, p, hsub p g2, g3, seen_put ok ho hAj g4, g5, fun d y hdj hy => g6 d y hdj (by rwa [put_other (hne h (by unfold dstOf; rw [hoj]; exact hdj))] at hy)⟩
      · exact .inr ⟨wg_put ok ho hoj hedge g1, fun d y hdj hy => g2 d y hdj (by rwa [put_other (hne h (by unfold dstOf; rw [hoj]; exact hdj))] at hy)⟩
    · rw [ho] at hoj
      cases hoj
      have hedge : ∀ k ∈ edges o, k ≠ j := fun k hk e => by have := ok.back j o ho k hk; omega
      refine ⟨hp, ?_⟩
      rcases hf with ⟨g1, g2, g3⟩ | ⟨g1, rfl⟩
      · exact .inl ⟨wg_put ok ho ho hedge g1, _, g2, rfl, seen_put ok ho hAi (seen_next ok I ho hi), g3, fun d y hdd hy => put_at hdd hy⟩
      · exact .inr ⟨wg_put ok ho ho hedge g1, fun d y hdd hy => put_at hdd hy⟩
  · have h1 : o.dst ≠ some t := fun e => ht i (tb_set.2 (.inr rfl)) (hd e)
    rw [put_other h1]
    exact I.val t fun y hy => ht y (tb_set.2 (.inl hy))
  · obtain ⟨y, hy1, hy2, hy3⟩ := hy
    rcases tb_set.1 hy1 with h | rfl
    · exact I.rel0 t v' u hu ⟨y, h, hy2, hy3⟩ hv'
    · by_cases hz : ∃ y', L.testBit y' = true ∧ dstOf l y' = some t
      · obtain ⟨y', h1, h2⟩ := hz
        have := ok.dst y' y t h2 hy3
        subst this
        rw [hi] at h1; cases h1
      · have hval := I.val t fun y' h1 h2 => hz ⟨y', h1, h2⟩
        exact I.rel1 t v' u hu (fun y' h1 h2 => absurd ⟨y', h1, h2⟩ hz) (hval.trans hv')
  · have h1 : o.dst ≠ some t := fun e => hnl (hy i (tb_set.2 (.inr rfl)) (hd e))
    rw [put_other h1] at hv'
    exact I.rel1 t v' u hu (fun y h2 h3 => hy y (tb_set.2 (.inl h2)) h3) hv'
theorem lst_set {x i : Nat} (hx : x < listed.size) : lst (listed.setIfInBounds x true) i ↔ lst listed i ∨ i = x := by
  unfold lst
  rw [Array.getD_eq_getD_getElem?, Array.getD_eq_getD_getElem?, Array.getElem?_setIfInBounds]
  by_cases h : x = i
  · subst h
    simp [hx]
  · rw [if_neg h]
    exact ⟨.inl, fun h' => h'.resolve_right fun e => h e.symm⟩
theorem tmp_other {dst : Option Nat} {u : Value} {t : Nat} (h : dst ≠ some t) : (a.put dst u).tmps[t]? = a.tmps[t]? := by
  cases dst with
  | none => rfl
  | some d =>
    show (a.tmps.setIfInBounds d u)[t]? = _
    rw [Array.getElem?_setIfInBounds, if_neg fun e => h (by rw [e])]
theorem tmp_at {dst : Option Nat} {u u' : Value} {t : Nat} (h : dst = some t) (hu : (a.put dst u).tmps[t]? = some u') : u' = u := by
  subst h
  have hu : (a.tmps.setIfInBounds t u)[t]? = some u' := hu
  rw [Array.getElem?_setIfInBounds, if_pos rfl] at hu
  split at hu
  · simp at hu; exact hu.symm
  · cases hu
theorem done_pend (ok : OpsOK l A) (I : DInv E cal l A s0 w0 h0 γ0 a0 listed L pend sc a w γ) {x : Nat} {o : Oper} (ho : l[x]? = some o) (hx : L.testBit x = true) (hnl : ¬ lst listed x) (he : ∀ j ∈ edges o, lst listed j) {v : AV} {u : Value} {w' : World} {γ' : Gam}
    (hv : ∀ d y, o.dst = some d → sc.slots[d]? = some y → y = v) (hr : VRel w' sc.heap γ' v u) (st : Step w sc.heap γ w' sc.heap γ') : DInv E cal l A s0 w0 h0 γ0 a0 (listed.setIfInBounds x true) L pend sc (a.put o.dst u) w' γ' := by
  have hlt : x < listed.size := by rw [I.lsz]; exact (List.getElem?_eq_some_iff.1 ho).1
  have hd : ∀ {t}, o.dst = some t → dstOf l x = some t := fun e => by unfold dstOf; rw [ho]; exact e
  refine ⟨by simp [I.lsz], fun i hi => ?_, I.lt, fun i oi hoi hi j hj => ?_, I.lcc, fun i oi hoi hi hil => I.pnd i oi hoi hi fun h => hil ((lst_set hlt).2 (.inl h)), I.ls0, by rw [put_size]; exact I.lsc, I.val, fun t v' u' hu hy hv' => ?_, fun t v' u' hu hy hv' => ?_, I.st.trans st, (put_defers a o.dst u).trans I.df, (put_size a o.dst u).trans I.sz⟩
  · rcases (lst_set hlt).1 hi with h | rfl
    · exact I.sub i h
    · exact hx
  · refine (lst_set hlt).2 (.inl ?_)
    rcases (lst_set hlt).1 hi with h | rfl
    · exact I.cls i oi hoi h j hj
    · rw [ho] at hoi; cases hoi; exact he j hj
  · obtain ⟨y, h1, h2, h3⟩ := hy
    have hne : o.dst ≠ some t := fun e => h2 ((lst_set hlt).2 (.inr (ok.dst y x t h3 (hd e))))
    rw [tmp_other hne] at hu
    exact (I.rel0 t v' u' hu ⟨y, h1, fun h => h2 ((lst_set hlt).2 (.inl h)), h3⟩ hv').move st.fr st.evo
  · by_cases e : o.dst = some t
    · rw [tmp_at e hu, hv t v' e hv']
      exact hr
    · rw [tmp_other e] at hu
      refine (I.rel1 t v' u' hu (fun y h1 h2 => ?_) hv').move st.fr st.evo
      rcases (lst_set hlt).1 (hy y h1 h2) with h | rfl
      · exact h
      · unfold dstOf at h2; rw [ho] at h2; exact absurd h2 e
theorem done_eff (ok : OpsOK l A) (I : DInv E cal l A s0 w0 h0 γ0 a0 listed L pend sc a w γ) {x : Nat} {o : Oper} (ho : l[x]? = some o) (hx : L.testBit x = false) (he : ∀ j ∈ edges o, lst listed j) {v : AV} {u : Value} {h' : List Obj} {w' : World} {γ' : Gam} {pend' : List Pd}
    (hr : VRel w' h' γ' v u) (st : Step w sc.heap γ w' h' γ') (hF : ∀ p ∈ pend, ∀ o', l[p.i]? = some o' → plainOp E o' = true → (A.getD x 0).testBit p.i = false → (∀ K' : AV → List Obj → Prop, K' p.v sc.heap → opP E cal o' ⟨p.sl, sc.heap⟩ K') → p ∈ pend' ∧ ∀ K' : AV → List Obj → Prop, K' p.v h' → opP E cal o' ⟨p.sl, h'⟩ K') :
    DInv E cal l A s0 w0 h0 γ0 a0 (listed.setIfInBounds x true) (Nat.lor L (Nat.pow 2 x)) pend' (put sc o.dst v h') (a.put o.dst u) w' γ' := by
  have hlt : x < listed.size := by rw [I.lsz]; exact (List.getElem?_eq_some_iff.1 ho).1
  have hd : ∀ {t}, o.dst = some t → dstOf l x = some t := fun e => by unfold dstOf; rw [ho]; exact e
  have hne : ∀ {y t}, L.testBit y = true → dstOf l y = some t → o.dst ≠ some t := fun {y t} h1 h2 e => by
    have := ok.dst x y t (hd e) h2
    subst this
    rw [hx] at h1; cases h1
  have hancl : ∀ b, (A.getD x 0).testBit b = true → lst listed b := anc_closed ok I.cls x o ho he
  refine ⟨by simp [I.lsz], fun i hi => ?_, fun i hi => ?_, fun i oi hoi hi j hj => ?_, fun i oi hoi hi b hb => ?_, fun i oi hoi hi hil => ?_, put_len.trans I.ls0, by rw [put_size]; exact put_len.trans I.lsc, fun t ht => ?_, fun t v' u' hu hy hv' => ?_, fun t v' u' hu hy hv' => ?_, I.st.trans st, (put_defers a o.dst u).trans I.df, (put_size a o.dst u).trans I.sz⟩
  · rcases (lst_set hlt).1 hi with h | rfl
    · exact tb_set.2 (.inl (I.sub i h))
    · exact tb_set.2 (.inr rfl)
  · rcases tb_set.1 hi with h | rfl
    · exact I.lt i h
    · rw [← I.lsz]; exact hlt
  · refine (lst_set hlt).2 (.inl ?_)
    rcases (lst_set hlt).1 hi with h | rfl
    · exact I.cls i oi hoi h j hj
    · rw [ho] at hoi; cases hoi; exact he j hj
  · rcases tb_set.1 hi with h | rfl
    · exact tb_set.2 (.inl (I.lcc i oi hoi h b hb))
    · exact tb_set.2 (.inl (I.sub b (hancl b hb)))
  · have hix : i ≠ x := fun e => hil ((lst_set hlt).2 (.inr e))
    have hiL : L.testBit i = true := (tb_set.1 hi).resolve_right hix
    obtain ⟨h1, h2⟩ := I.pnd i oi hoi hiL fun h => hil ((lst_set hlt).2 (.inl h))
    have hedge : ∀ k ∈ edges oi, k ≠ x := fun k hk e => by
      subst e
      have := I.lcc i oi hoi hiL k ((ok.anc i oi hoi k).2 ⟨k, hk, .inl rfl⟩)
      rw [hx] at this; cases this
    have hAi : (A.getD i 0).testBit x = false := by
      cases hb : (A.getD i 0).testBit x with
      | false => rfl
      | true => have := I.lcc i oi hoi hiL x hb; rw [hx] at this; cases this
    have hxi : (A.getD x 0).testBit i = false := by
      cases hb : (A.getD x 0).testBit i with
      | false => rfl
      | true => exact absurd ((lst_set hlt).2 (.inl (hancl i hb))) hil
    have hdi : ∀ {d}, oi.dst = some d → o.dst ≠ some d := fun {d} e => hne hiL (by unfold dstOf; rw [hoi]; exact e)
    refine ⟨h1, ?_⟩
    rcases h2 with ⟨g1, p, g2, g3, g4, g5, g6⟩ | ⟨g1, g2⟩
    · obtain ⟨hp', hfx⟩ := hF p g2 oi (by rw [g3]; exact hoi) h1 (by rw [g3]; exact hxi) g5
      exact .inl ⟨wg_put ok ho hoi hedge g1, p, hp', g3, seen_put ok ho hAi g4, hfx, fun d y hdj hy => g6 d y hdj (by rwa [put_other (hdi hdj)] at hy)⟩
    · exact .inr ⟨wg_put ok ho hoi hedge g1, fun d y hdj hy => g2 d y hdj (by rwa [put_other (hdi hdj)] at hy)⟩
  · have h1 : o.dst ≠ some t := fun e => ht x (tb_set.2 (.inr rfl)) (hd e)
    rw [put_other h1]
    exact I.val t fun y hy => ht y (tb_set.2 (.inl hy))
  · obtain ⟨y, hy1, hy2, hy3⟩ := hy
    have hyx : y ≠ x := fun e => hy2 ((lst_set hlt).2 (.inr e))
    have hyL := (tb_set.1 hy1).resolve_right hyx
    rw [tmp_other (hne hyL hy3)] at hu
    exact (I.rel0 t v' u' hu ⟨y, hyL, fun h => hy2 ((lst_set hlt).2 (.inl h)), hy3⟩ hv').move st.fr st.evo
  · by_cases e : o.dst = some t
    · rw [tmp_at e hu, put_at e hv']
      exact hr
    · rw [tmp_other e] at hu
      rw [put_other e] at hv'
      refine (I.rel1 t v' u' hu (fun y h1 h2 => ?_) hv').move st.fr st.evo
      rcases (lst_set hlt).1 (hy y (tb_set.2 (.inl h1)) h2) with h | rfl
      · exact h
      · unfold dstOf at h2; rw [ho] at h2; exact absurd h2 e
theorem recheck_inv {h : List Obj} : ∀ {ps : List Pd} {X : Prop}, recheck E cal l h ps X → X ∧ ∀ p ∈ ps, ∀ o', l[p.i]? = some o' → ∀ K' : AV → List Obj → Prop, plainOp E o' = true → pureOp E o' p.sl = false → K' p.v h → opP E cal o' ⟨p.sl, h⟩ K'
  | [], X, hx => ⟨hx, by simp⟩
  | p :: ps, X, hx => by
    unfold recheck at hx
    split at hx
    · rename_i o ho
      obtain ⟨hp, hx1⟩ := br_t hx
      split at hx1
      · rename_i hpu
        obtain ⟨h1, h2⟩ := recheck_inv hx1
        refine ⟨h1, fun q hq o' ho' K' hp' hq' hK => ?_⟩
        rcases List.mem_cons.1 hq with rfl | hq
        · rw [ho] at ho'
          cases ho'
          rw [hpu] at hq'; cases hq'
        · exact h2 q hq o' ho' K' hp' hq' hK
      · obtain ⟨v, hs, hd⟩ := det_op hp hx1
        obtain ⟨rfl, hx2⟩ := sameAV_inv hs
        obtain ⟨h1, h2⟩ := recheck_inv hx2
        refine ⟨h1, fun q hq o' ho' K' hp' hq' hK => ?_⟩
        rcases List.mem_cons.1 hq with rfl | hq
        · rw [ho] at ho'
          cases ho'
          exact hd K' hK
        · exact h2 q hq o' ho' K' hp' hq' hK
    · exact hx.elim
theorem ready_inv {i : Nat} (h : ready A L i = true) : L.testBit i = false ∧ ∀ b, (A.getD i 0).testBit b = true → L.testBit b = true := by
  simp only [ready, Bool.and_eq_true, Bool.not_eq_true'] at h
  refine ⟨h.1, fun b hb => ?_⟩
  have e : Nat.land (A.getD i 0) L = A.getD i 0 := Nat.eq_of_beq_eq_true h.2
  rw [← e] at hb
  have : (A.getD i 0 &&& L).testBit b = true := hb
  rw [Nat.testBit_and, Bool.and_eq_true] at this
  exact this.2
theorem nextI_inv {i : Nat} (h : nextI E l A L = some i) : ready A L i = true := by
  unfold nextI at h
  split at h
  · rename_i j hj
    cases h
    have := List.find?_some hj
    simp only [Bool.and_eq_true] at this
    exact this.1
  · exact List.find?_some h
/-- The telling goes on until an operation that does something. -/
theorem advance (ok : OpsOK l A) {K : St → Prop} : ∀ (k : Nat) {L : Nat} {pend : List Pd} {sc : St}, drawC E cal l A k L pend sc K → DInv E cal l A s0 w0 h0 γ0 a0 listed L pend sc a w γ →
    ∃ k' L' pend' sc', drawC E cal l A k' L' pend' sc' K ∧ DInv E cal l A s0 w0 h0 γ0 a0 listed L' pend' sc' a w γ ∧ (k' = 0 ∨ ∃ i o, nextI E l A L' = some i ∧ l[i]? = some o ∧ plainOp E o = false)
  | 0, L, pend, sc, hk, I => ⟨0, L, pend, sc, hk, I, .inl rfl⟩
  | k + 1, L, pend, sc, hk, I => by
    have hk0 := hk
    simp only [drawC] at hk
    split at hk
    · exact hk.elim
    · rename_i i hi
      split at hk
      · exact hk.elim
      · rename_i o ho
        obtain ⟨r1, r2⟩ := ready_inv (nextI_inv hi)
        split at hk
        · rename_i hp
          rcases guardP_inv hk with ⟨hw, hk1⟩ | ⟨hw, hk1⟩
          · obtain ⟨v, hk2, hd⟩ := det_op hp hk1
            exact advance ok k hk2 (adv ok I ho r1 r2 hp (fun p hp => List.mem_cons_of_mem _ hp) (.inl ⟨hw, by simp, hd⟩))
          · exact advance ok k hk1 (adv ok I ho r1 r2 hp (fun p hp => hp) (.inr ⟨hw, rfl⟩))
        · rename_i hp
          exact ⟨k + 1, L, pend, sc, hk0, I, .inr ⟨i, o, hi, ho, hp⟩⟩
theorem count_lt {p p' : Nat → Bool} {x : Nat} (hpp : ∀ i, p' i = true → p i = true) (h1 : p x = true) (h2 : p' x = false) : ∀ {m : List Nat}, x ∈ m → m.countP p' < m.countP p
  | y :: m, hm => by
    have le : m.countP p' ≤ m.countP p := List.countP_mono_left fun i _ h => hpp i h
    rcases List.mem_cons.1 hm with rfl | hm
    · rw [List.countP_cons_of_pos h1, List.countP_cons_of_neg (by simp [h2])]; omega
    · have ih := count_lt hpp h1 h2 hm
      by_cases hy : p' y = true
      · rw [List.countP_cons_of_pos hy, List.countP_cons_of_pos (hpp y hy)]; omega
      · rw [List.countP_cons_of_neg hy]
        have : m.countP p ≤ (y :: m).countP p := by rw [List.countP_cons]; omega
        omega
theorem all_bits {n i : Nat} (h : i < n) : (Nat.sub (Nat.pow 2 n) 1).testBit i = true := by
  show (2 ^ n - 1).testBit i = true
  rw [Nat.testBit_two_pow_sub_one]
  simpa using h
theorem draw_any {ops : Array Oper} (hl : l = ops.toList) (ok : OpsOK l A) (H : EOK P E) (HC : CalOK P E cal) (HG : GRel E w0 (Ro w0 h0 γ0)) {K : St → Prop} {Q : Exit → Act → World → Prop} (hn : ∀ s' w' γ' a', K s' → Step w0 h0 γ0 w' s'.heap γ' → SRel w' s'.heap γ' s'.slots a'.tmps → a'.defers = a0.defers → a'.tmps.size = a0.tmps.size → Q .normal a' w') :
    ∀ (fuel : Nat) (listed : Array Bool) (k L : Nat) (pend : List Pd) (sc : St) (a : Act) (w : World) (γ : Gam), drawC E cal l A k L pend sc K → DInv E cal l A s0 w0 h0 γ0 a0 listed L pend sc a w γ → (List.range l.length).countP (fun i => !listed.getD i false) ≤ fuel → wpAny P .any ops Q fuel listed a w := by
  have hops : ∀ i : Nat, ops[i]? = l[i]? := fun i => by rw [hl, Array.getElem?_toList]
  have rdy : ∀ {listed : Array Bool} {j : Nat}, listed.size = l.length → (j ∈ Region.ready .any ops listed ↔ ¬ lst listed j ∧ ∃ o, l[j]? = some o ∧ ∀ e ∈ edges o, lst listed e) := by
    intro listed j hsz
    rw [mem_ready]
    have e1 : ∀ o, l[j]? = some o → (listed.getD j true = false ↔ ¬ lst listed j) := fun o ho => by
      have hj : j < listed.size := by rw [hsz]; exact (List.getElem?_eq_some_iff.1 ho).1
      unfold lst
      rw [Array.getD_eq_getD_getElem?, Array.getD_eq_getD_getElem?, Array.getElem?_eq_getElem hj]
      simp
    have e2 : ∀ o : Oper, (∀ e ∈ o.after, Region.binds .any e = true → listed.getD e.on false = true) ↔ ∀ e ∈ edges o, lst listed e := fun o => by
      unfold edges lst
      simp only [List.mem_map, List.mem_filter]
      constructor
      · rintro h e ⟨x, ⟨h1, h2⟩, rfl⟩; exact h x (by simpa using h1) h2
      · intro h e h1 h2; exact h e.on ⟨e, ⟨by simpa using h1, h2⟩, rfl⟩
    constructor
    · rintro ⟨h1, o, ho, h2⟩
      rw [hops] at ho
      exact ⟨(e1 o ho).1 h1, o, ho, (e2 o).1 h2⟩
    · rintro ⟨h1, o, ho, h2⟩
      exact ⟨(e1 o ho).2 h1, o, by rw [hops]; exact ho, (e2 o).2 h2⟩
  -- all has been done
  have fin : ∀ {listed : Array Bool} {k L : Nat} {pend : List Pd} {sc : St} {a : Act} {w : World} {γ : Gam}, drawC E cal l A k L pend sc K → DInv E cal l A s0 w0 h0 γ0 a0 listed L pend sc a w γ → (∀ i, i < l.length → lst listed i) → Q .normal a w := by
    intro listed k L pend sc a w γ hk I hall
    obtain ⟨k, L, pend, sc, hk, I, hor⟩ := advance ok k hk I
    rcases hor with rfl | ⟨i, o, hi, ho, hp⟩
    · simp only [drawC] at hk
      obtain ⟨_, hK⟩ := br_t hk
      refine hn sc w γ a hK I.st ⟨by simpa using I.lsc, fun t v u hv hu => ?_⟩ I.df I.sz
      rw [Array.getElem?_toList] at hu
      exact I.rel1 t v u hu (fun y hy _ => hall y (I.lt y hy)) hv
    · have r := ready_inv (nextI_inv hi)
      have := I.sub i (hall i (List.getElem?_eq_some_iff.1 ho).1)
      rw [r.1] at this; cases this
  have none_left : ∀ {listed : Array Bool}, listed.size = l.length → Region.ready .any ops listed = [] → ∀ i, i < l.length → lst listed i := by
    intro listed hsz hr i
    induction i using Nat.strongRecOn with
    | _ i ih =>
      intro hi
      by_cases h : lst listed i
      · exact h
      · have ho : l[i]? = some l[i] := List.getElem?_eq_getElem hi
        have : i ∈ Region.ready .any ops listed := (rdy hsz).2 ⟨h, _, ho, fun e he => ih e (ok.back i _ ho e he) (Nat.lt_trans (ok.back i _ ho e he) hi)⟩
        rw [hr] at this; cases this
  intro fuel
  induction fuel with
  | zero =>
    intro listed k L pend sc a w γ hk I hc
    have hall : ∀ i, i < l.length → lst listed i := fun i hi => by
      have h0 : (List.range l.length).countP (fun i => !listed.getD i false) = 0 := by omega
      have := List.countP_eq_zero.1 h0 i (List.mem_range.2 hi)
      unfold lst
      simpa using this
    refine ⟨?_, fin hk I hall⟩
    cases hr : Region.ready .any ops listed with
    | nil => rfl
    | cons x xs =>
      obtain ⟨h1, o, ho, _⟩ := (rdy I.lsz).1 (show x ∈ Region.ready .any ops listed by rw [hr]; simp)
      exact absurd (hall x (List.getElem?_eq_some_iff.1 ho).1) h1
  | succ fuel ih =>
    intro listed k L pend sc a w γ hk I hc
    refine ⟨fun hr => fin hk I (none_left I.lsz hr), fun x hx => ?_⟩
    obtain ⟨hxl, o, ho, he⟩ := (rdy I.lsz).1 hx
    obtain ⟨k, L, pend, sc, hk, I, hor⟩ := advance ok k hk I
    have hlt : x < l.length := (List.getElem?_eq_some_iff.1 ho).1
    have hc' : (List.range l.length).countP (fun i => !(listed.setIfInBounds x true).getD i false) ≤ fuel := by
      have := count_lt (p := fun i => !listed.getD i false) (p' := fun i => !(listed.setIfInBounds x true).getD i false) (x := x) (fun i hi => by
        have hn' : ¬ lst (listed.setIfInBounds x true) i := by unfold lst; simpa using hi
        have : ¬ lst listed i := fun h => hn' ((lst_set (by rw [I.lsz]; exact hlt)).2 (.inl h))
        unfold lst at this; simpa using this) (by unfold lst at hxl; simpa using hxl) (by
        have : lst (listed.setIfInBounds x true) x := (lst_set (by rw [I.lsz]; exact hlt)).2 (.inr rfl)
        unfold lst at this; simpa using this) (List.mem_range.2 hlt)
      omega
    have HGw := HG.mono I.st.fr.ro
    have hext : l.toArray = ops := by rw [hl]
    unfold wpOp
    rw [hops, ho]
    simp only
    -- one operation, done
    have one : ∀ {V : List AV} {K2 : AV → List Obj → Prop}, V.length = a.tmps.size → (∀ t ∈ opnds o, ∀ u, a.tmps[t]? = some u → VRel w sc.heap γ (V.getD t .un) u) → opP E cal o ⟨V, sc.heap⟩ K2 → Nexts w sc.heap γ o a K2 (wpAny P .any ops Q fuel (listed.setIfInBounds x true)) → o.wp P a w (wpAny P .any ops Q fuel (listed.setIfInBounds x true)) Q := by
      intro V K2 hVl hV hop hnx
      obtain ⟨S, hS1, hS2⟩ := mkS (o := o) hVl hV
      rw [← opP_congr (sl := S) hS2] at hop
      exact op_ok H HC (s := ⟨S, sc.heap⟩) I.st.rel hS1 HGw hop hnx
    by_cases hxL : L.testBit x = true
    · obtain ⟨hp, hf⟩ := I.pnd x o ho hxL hxl
      rcases hf with ⟨hw, p, hp1, hp2, hp3, hp4, hp5⟩ | ⟨hw, hu⟩
      · have hwt := wanted_ok I ok ho he hw
        rw [hext] at hwt
        rw [if_pos hwt]
        refine .inl (one (K2 := fun v h => v = p.v ∧ h = sc.heap) (hp3.1.trans I.lsc) (seen_rel ok I ho hxl he hp3) (hp4 _ ⟨rfl, rfl⟩) fun v h' u w' γ' hK hv st => ?_)
        obtain ⟨rfl, rfl⟩ := hK
        exact ih _ _ _ _ _ _ _ _ hk (done_pend ok I ho hxL hxl he hp5 hv st) hc'
      · have hwt := wanted_ok I ok ho he hw
        rw [hext] at hwt
        rw [if_neg (by rw [hwt]; simp)]
        exact ih _ _ _ _ _ _ _ _ hk (done_pend ok I ho hxL hxl he hu (v := .un) (u := undef) trivial (Step.refl I.st.rel)) hc'
    · have hxf : L.testBit x = false := by simpa using hxL
      rcases hor with rfl | ⟨i, oi, hi, hoi, hpi⟩
      · simp only [drawC] at hk
        obtain ⟨hL, _⟩ := br_t hk
        have := Nat.eq_of_beq_eq_true hL
        rw [this, all_bits hlt] at hxf; cases hxf
      · cases k with
        | zero =>
          simp only [drawC] at hk
          obtain ⟨hL, _⟩ := br_t hk
          have := Nat.eq_of_beq_eq_true hL
          rw [this, all_bits hlt] at hxf; cases hxf
        | succ k =>
          simp only [drawC, hi, hoi, hpi] at hk
          obtain ⟨hall, hk1⟩ := br_t hk
          obtain ⟨r1, r2⟩ := ready_inv (nextI_inv hi)
          have hxi : x = i := by
            have := List.all_eq_true.1 hall x (List.mem_range.2 hlt)
            simp only [Bool.or_eq_true, hxf, Bool.false_eq_true, false_or] at this
            rcases this with h | h
            · exact Nat.eq_of_beq_eq_true h
            · have := I.sub i (anc_closed ok I.cls x o ho he i h)
              rw [r1] at this; cases this
          subst hxi
          rw [ho] at hoi
          cases hoi
          rcases guardP_inv hk1 with ⟨hw, hk2⟩ | ⟨hw, hk2⟩
          · have hwt := wanted_ok I ok ho he hw
            rw [hext] at hwt
            rw [if_pos hwt]
            refine .inl (one (V := sc.slots) I.lsc (seen_rel ok I ho hxl he (seen_next ok I ho hxf)) hk2 fun v h' u w' γ' hK hv st => ?_)
            obtain ⟨hk3, hfacts⟩ := recheck_inv hK
            exact ih _ _ _ _ _ _ _ _ hk3 (done_eff ok I ho hxf he hv st fun p hp o' ho' hpl hb hfx => ⟨List.mem_filter.2 ⟨hp, by show (!(A.getD x 0).testBit p.i) = true; rw [hb]; rfl⟩, fun K' hK' => by
              cases hpu : pureOp E o' p.sl with
              | true => exact pure_any hpl hpu hfx K' hK'
              | false => exact hfacts p (List.mem_filter.2 ⟨hp, by show (!(A.getD x 0).testBit p.i) = true; rw [hb]; rfl⟩) o' ho' K' hpl hpu hK'⟩) hc'
          · have hwt := wanted_ok I ok ho he hw
            rw [hext] at hwt
            rw [if_neg (by rw [hwt]; simp)]
            exact ih _ _ _ _ _ _ _ _ hk2 (done_eff ok I ho hxf he (v := .un) (u := undef) trivial (Step.refl I.st.rel) fun p hp o' ho' hpl hb hfx => ⟨hp, hfx⟩) hc'
theorem drawP_ok (hm : P.follows .mixedOrders = true) (H : EOK P E) (HC : CalOK P E cal) : DrawOK P E (drawP E cal) := by
  intro ops s K hk id w γ a Q HH HS HG hn
  obtain ⟨hok, hk1⟩ := br_t hk
  have ok := okOps_inv hok
  have sd := Step.drew HH
  refine wp_region_any hm ?_
  have hsz : (Array.replicate ops.size false).size = ops.toList.length := by simp
  have nl : ∀ i, ¬ lst (Array.replicate ops.size false) i := fun i h => by
    unfold lst at h
    rw [Array.getD_eq_getD_getElem?, Array.getElem?_replicate] at h
    split at h <;> simp at h
  have tb : ∀ i, (0 : Nat).testBit i = true → False := fun i h => by simp at h
  have I : DInv E cal ops.toList (ancAll ops.toList []) s.slots w.drew s.heap γ a (Array.replicate ops.size false) 0 [] s a w.drew γ := by
    have HS' : SRel w.drew s.heap γ s.slots a.tmps := HS.mono fun x y _ hxy => hxy.move sd.fr sd.evo
    exact ⟨hsz, fun i h => absurd h (nl i), fun i h => (tb i h).elim, fun i o _ h => absurd h (nl i), fun i o _ h => (tb i h).elim, fun i o _ h => (tb i h).elim, rfl, by simpa using HS.1, fun _ _ => rfl, fun t v u _ ⟨y, h, _⟩ => (tb y h).elim,
      fun t v u hu _ hv => HS'.2 t v u hv (by rw [Array.getElem?_toList]; exact hu), Step.refl sd.rel, rfl, rfl⟩
  exact draw_any rfl ok H HC (HG.mono sd.fr.ro) (fun s' w' γ' a' hK st hs hd hz => hn s' w' γ' a' hK (sd.trans st) hs hd hz) _ _ _ _ _ _ _ _ _ hk1 I (by
    refine Nat.le_trans List.countP_le_length ?_
    simp)
end
end Go.Proofs.YtahlcbmmjfdcaaaGreatDoor.PX
