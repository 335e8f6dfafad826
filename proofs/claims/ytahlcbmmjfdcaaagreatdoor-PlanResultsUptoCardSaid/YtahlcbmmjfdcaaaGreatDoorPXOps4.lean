/- PX, part 7: the operations that write or make memory. -/
import Derived.Test.YtahlcbmmjfdcaaaGreatDoorPXStep
import Derived.Laws.Build
import Derived.Great.BuildSlice
set_option linter.all false
namespace Go.Proofs.YtahlcbmmjfdcaaaGreatDoor.PX
set_option linter.unusedVariables false
set_option linter.unusedSimpArgs false

/-- An operation came to value u and world w'. -/
def Good (w : World) (h : List Obj) (γ : Gam) (K : AV → List Obj → Prop) (u : Value) (w' : World) : Prop := ∃ v h' γ', K v h' ∧ VRel w' h' γ' v u ∧ Step w h γ w' h' γ'
def HeapOK (P : Program) (w : World) (h : List Obj) (γ : Gam) (S : Sem Value) (K : AV → List Obj → Prop) : Prop := ∃ u w', S.run P w = .ok u w' ∧ Good w h γ K u w'
section
variable {P : Program} {E : Env} {w : World} {h : List Obj} {γ : Gam}
theorem PureOK.heap (HH : HRel w h γ) {S : Sem Value} {K : AV → List Obj → Prop} (hp : PureOK P w h γ S (fun v => K v h)) : HeapOK P w h γ S K := by
  obtain ⟨u, v, h1, h2, h3⟩ := hp
  exact ⟨u, w, h1, v, h, γ, h2, h3, Step.refl HH⟩

/-! ### Freezing -/
theorem conv_rel (HH : HRel w h γ) {x : Lf} {u : Value} (hx : LRel w h γ x u) {y : D} (hy : convL h x = .d y) : DRel w (Ro w (kill h (convIds x)) γ) y u ∧ Step w h γ w (kill h (convIds x)) γ := by
  cases x with
  | d x =>
    simp only [convL] at hy
    cases hy
    exact ⟨hx, Step.refl HH⟩
  | rw id ver =>
    have st : Step w h γ w (h.set id .dead) γ := Step.drop HH id
    simp only [convIds, kill, List.foldl_cons, List.foldl_nil]
    refine ⟨?_, st⟩
    simp only [convL] at hy
    split at hy
    · rename_i sz es v ho
      cases hb : Nat.beq v ver with
      | false => rw [hb] at hy; cases hy; exact .undef hx.1
      | true =>
        rw [hb] at hy
        cases hy
        obtain ⟨ho', hr⟩ := row_of hx ho hb
        obtain ⟨hU, hrow⟩ := HH.obj _ _ ho'
        unfold RowV at hr
        split at hr
        · rename_i hg
          rw [hg] at hrow
          obtain rfl : es = [] := hrow
          obtain ⟨_, _, a, rfl⟩ := hr
          exact .sl (us := []) (by simp) (by simp) (by simp) hU (by simp) (by simp) (by simp)
        · rename_i b p hg
          rw [hg] at hrow
          obtain ⟨cs, t, hcs, hle, hp⟩ := hrow
          obtain ⟨g1, a, cap, rfl, g2, g3, g4, g5⟩ := hr
          refine .sl (us := (cs.toList.drop p).take (es.length * sz)) g2 (by simp) (by simp) hU (fun hne => ?_) hp.1 (fun k d u hd hu => (hp.2 k d u hd hu).fr st.fr)
          have : 0 < es.length := List.length_pos_iff.2 hne
          refine ⟨b, p, by rw [g4 (by omega)]; simp, ⟨(Array.getElem?_eq_some_iff.1 hcs).1, ?_, HH.xno b ⟨id, _, p, ho', rfl, hg⟩⟩, fun k u hk => ?_⟩
          · rintro ⟨i, o, q, hi, hd, hgi⟩
            rw [List.getElem?_set] at hi
            by_cases hii : id = i
            · rw [if_pos hii] at hi
              split at hi
              · simp at hi; subst hi; cases hd
              · simp at hi
            · rw [if_neg hii] at hi
              exact hii (HH.inj id i _ _ _ _ _ ho' rfl hi hd hg hgi)
          · rw [cell_of hcs]; exact seg_get hk
    · cases hy; exact .undef hx.1
  | rws id ver off len =>
    have st : Step w h γ w (h.set id .dead) γ := Step.drop HH id
    simp only [convIds, kill, List.foldl_cons, List.foldl_nil]
    refine ⟨?_, st⟩
    simp only [convL] at hy
    split at hy
    · rename_i sz es v ho
      cases hb : Nat.beq v ver with
      | false => rw [hb] at hy; cases hy; exact .undef hx.1
      | true =>
        rw [hb] at hy
        cases hy
        obtain ⟨ho', hr⟩ := rows_of hx ho hb
        obtain ⟨hU, hrow⟩ := HH.obj _ _ ho'
        unfold RowV at hr
        split at hr
        · rename_i hg
          rw [hg] at hrow
          obtain rfl : es = [] := hrow
          obtain ⟨_, rfl, a, rfl⟩ := hr
          have := @DRel.sl w (Ro w (h.set id .dead) γ) sz [] .any a 0 [] (by simp) (by simp) (by simp) hU (by simp) (by simp) (by simp)
          simpa using this
        · rename_i b p hg
          rw [hg] at hrow
          obtain ⟨cs, t, hcs, hle, hp⟩ := hrow
          obtain ⟨g1, a, cap, rfl, g2, g3, g4, g5⟩ := hr
          have hl : ((es.drop off).take len).length = len := by simp; omega
          have hp2 : Pt (DRel w (Ro w h γ)) ((es.drop off).take len).flatten ((((cs.toList.drop p).take (es.length * sz)).drop (off * sz)).take (len * sz)) := by
            rw [(hU.drop off).flatten_take, hU.flatten_drop]
            exact (hp.drop _).take _
          have := @DRel.sl w (Ro w (h.set id .dead) γ) sz ((es.drop off).take len) .any a cap ((((cs.toList.drop p).take (es.length * sz)).drop (off * sz)).take (len * sz)) (by omega) (by simp) (by simp) ((hU.drop off).take len) (fun hne => by
            have : 0 < ((es.drop off).take len).length := List.length_pos_iff.2 hne
            refine ⟨b, p + off * sz, g4 (by omega), ⟨(Array.getElem?_eq_some_iff.1 hcs).1, ?_, HH.xno b ⟨id, _, p, ho', rfl, hg⟩⟩, fun k u hk => ?_⟩
            · rintro ⟨i, o, q, hi, hd, hgi⟩
              rw [List.getElem?_set] at hi
              by_cases hii : id = i
              · rw [if_pos hii] at hi
                split at hi
                · simp at hi; subst hi; cases hd
                · simp at hi
              · rw [if_neg hii] at hi
                exact hii (HH.inj id i _ _ _ _ _ ho' rfl hi hd hg hgi)
            · rw [cell_of hcs, Nat.add_assoc]; exact seg_get (seg_get hk)) hp2.1 (fun k d u hd hu => (hp2.2 k d u hd hu).fr st.fr)
          rwa [hl] at this
    · cases hy; exact .undef hx.1
  | _ => simp [convL] at hy
theorem toD_ok (HH : HRel w h γ) {x : Lf} {u : Value} {K : D → List Obj → Prop} (hx : LRel w h γ x u) (hk : toD x h K) :
    ∃ y h', K y h' ∧ DRel w (Ro w h' γ) y u ∧ Step w h γ w h' γ ∧ h'.length = h.length ∧ ∀ i, i ∉ convIds x → h'[i]? = h[i]? := by
  unfold toD at hk
  split at hk
  · rename_i y hy
    obtain ⟨h1, h2⟩ := conv_rel HH hx hy
    refine ⟨y, _, hk, h1, h2, ?_, fun i hi => ?_⟩
    · cases x <;> simp [convIds, kill]
    · cases x <;> simp [convIds, kill] at hi ⊢
      · rw [List.getElem?_set, if_neg (fun e => hi e.symm)]
      · rw [List.getElem?_set, if_neg (fun e => hi e.symm)]
  · exact hk.elim
theorem toDs_ok : ∀ {xs : List Lf} {us : List Value} {h : List Obj} {K : List D → List Obj → Prop}, HRel w h γ → Pt (LRel w h γ) xs us → toDs xs h K →
    ∃ ys h', K ys h' ∧ Pt (DRel w (Ro w h' γ)) ys us ∧ Step w h γ w h' γ ∧ h'.length = h.length ∧ ∀ i, i ∉ xs.flatMap convIds → h'[i]? = h[i]?
  | [], us, h, K, HH, hp, hk => by obtain rfl := hp.nil_inv; exact ⟨[], h, hk, Pt.nil, Step.refl HH, rfl, fun _ _ => rfl⟩
  | x :: xs, us, h, K, HH, hp, hk => by
    obtain ⟨u, us, rfl, hx, hp2⟩ := hp.inv
    obtain ⟨y, h1, hk1, hy, st, hl, ho⟩ := toD_ok HH hx hk
    obtain ⟨ys, h2, hk2, hys, st2, hl2, ho2⟩ := toDs_ok st.rel (hp2.mono fun a b _ hab => hab.move st.fr st.evo) hk1
    exact ⟨y :: ys, h2, hk2, Pt.cons (hy.fr st2.fr) hys, st.trans st2, hl2.trans hl, fun i hi => by
      simp only [List.flatMap_cons, List.mem_append, not_or] at hi
      rw [ho2 i hi.2, ho i hi.1]⟩
theorem ids_leaves (t : TV) : (leaves t).flatMap convIds = convIdsT t := by cases t <;> simp [leaves, convIdsT]
theorem leaves_rel {t : TV} {u : Value} (ht : TRel w h γ t u) : Pt (LRel w h γ) (leaves t) u.cells.toList := by
  cases t with
  | lf x =>
    have h1 := LRel.one (x := x) ht
    have : u.cells = #[u] := by cases u <;> first | rfl | cases h1
    rw [this]
    exact Pt.cons ht Pt.nil
  | agg l => obtain ⟨cs, rfl, hp⟩ := ht; exact hp

/-! ### New variables -/
theorem ownCell_ok (HH : HRel w h γ) {xs : List Lf} {us : List Value} (hp : Pt (LRel w h γ) xs us) (c : Nat × Nat) :
    ∃ γ', Step w h γ w (ownCell (xs, h) c).2 γ' ∧ Pt (LRel w (ownCell (xs, h) c).2 γ') (ownCell (xs, h) c).1 us := by
  unfold ownCell
  split
  · rename_i sz hx
    have st := Step.newNil HH c.2
    obtain ⟨u, hu, hr⟩ := hp.get hx
    refine ⟨_, st, ?_⟩
    have hset := (hp.mono fun a b _ hab => hab.move st.fr st.evo).set c.1 (a := .rw h.length 0) (b := u) ?_
    · rwa [show us.set c.1 u = us from by
        apply List.ext_getElem?
        intro j
        rw [List.getElem?_set]
        split
        · rename_i e; subst e; rw [hu]; simp [(List.getElem?_eq_some_iff.1 hu).1]
        · rfl] at hset
    · cases hr with
      | sl us h1 h2 h3 =>
        obtain ⟨rfl, _, rfl⟩ := h3 rfl
        refine ⟨rfl, by simp, fun sz' es k ho => ?_⟩
        simp at ho
        obtain ⟨rfl, rfl, rfl⟩ := ho
        refine ⟨Nat.le_refl _, fun _ => ?_⟩
        unfold RowV
        rw [upd_same]
        exact ⟨rfl, rfl, none, rfl⟩
  · exact ⟨γ, Step.refl HH, hp⟩
theorem own_ok : ∀ {cs : List (Nat × Nat)} {h : List Obj} {γ : Gam} {xs : List Lf} {us : List Value}, HRel w h γ → Pt (LRel w h γ) xs us →
    ∃ γ', Step w h γ w (cs.foldl ownCell (xs, h)).2 γ' ∧ Pt (LRel w (cs.foldl ownCell (xs, h)).2 γ') (cs.foldl ownCell (xs, h)).1 us
  | [], h, γ, xs, us, HH, hp => ⟨γ, Step.refl HH, hp⟩
  | c :: cs, h, γ, xs, us, HH, hp => by
    obtain ⟨γ1, st, hp1⟩ := ownCell_ok HH hp c
    obtain ⟨γ2, st2, hp2⟩ := own_ok (cs := cs) st.rel hp1
    exact ⟨γ2, st.trans st2, hp2⟩
theorem new_ptr {h : List Obj} {o : Obj} {w' : World} {γ' : Gam} (b : Nat) (hg : γ' h.length = some (b, 0)) (hf : fixd o = true) : VRel w' (h ++ [o]) γ' (.lf (.ptr h.length 0)) (.pointer (some ⟨b, 0, none⟩)) := by
  refine ⟨rfl, by simp, fun o' ho' _ => ⟨b, 0, hg, rfl⟩⟩
theorem newP_ok {t : TypeId} {xs : List Lf} {us : List Value} {K : AV → List Obj → Prop} (HH : HRel w h γ) (hp : Pt (LRel w h γ) xs us) (hk : newP E t xs h K) :
    Good w h γ K (.pointer (some ⟨w.heap.size, 0, none⟩)) (w.alloc (.cells us.toArray t)) := by
  unfold newP at hk
  split at hk
  · exact hk.elim
  rename_i ti hti
  split at hk
  · obtain ⟨ys, h', hk, hys, st, hl, _⟩ := toDs_ok HH hp hk
    have st2 := Step.new st.rel (.arr (castDs ti.zero ys)) (.cells us.toArray t) (fun γ' hγ f e => ⟨w.heap.size, us.toArray, t, by rw [hγ, upd_same], heap_alloc_at _ _, by rw [List.toList_toArray]; exact (cast_ds hys).mono fun x y _ hxy => hxy.fr f⟩)
    exact ⟨_, _, _, hk, new_ptr _ upd_same rfl, st.trans st2⟩
  · obtain ⟨γ1, st, hp1⟩ := own_ok (cs := ti.own) HH (cast_ls (zs := ti.zero) hp)
    have st2 := Step.new st.rel (.cells (ti.own.foldl ownCell (castLs ti.zero xs, h)).1) (.cells us.toArray t) (fun γ' hγ f e => ⟨w.heap.size, us.toArray, t, by rw [hγ, upd_same], heap_alloc_at _ _, by rw [List.toList_toArray]; exact hp1.mono fun x y _ hxy => hxy.move f e⟩)
    exact ⟨_, _, _, hk, new_ptr _ upd_same rfl, st.trans st2⟩
theorem box_ok {t : TypeId} {v : AV} {u : Value} {K : AV → List Obj → Prop} (HH : HRel w h γ) (hv : VRel w h γ v u) (hk : boxP E t v h K) : HeapOK P w h γ (Instr.box t u) K := by
  obtain ⟨x, rfl, hk⟩ := onT_inv hk
  have hp := leaves_rel hv
  refine ⟨_, _, ?_, newP_ok HH hp hk⟩
  simp [Instr.box, newVar, newRow]
theorem mv_leaves {ag : Bool} {l : List D} {z : Value} (hm : MV w (Ro w h γ) ag l z) : Pt (LRel w h γ) (l.map .d) z.cells.toList := by
  cases ag with
  | true => obtain ⟨cs, rfl, hp⟩ := hm; exact Pt.map_left _ hp
  | false =>
    obtain ⟨x, rfl, hr⟩ := hm
    have : z.cells = #[z] := by have := hr.one; cases z <;> first | rfl | cases this
    rw [this]
    exact Pt.cons hr Pt.nil
theorem alloc_ok (H : EOK P E) {t : TypeId} {K : AV → List Obj → Prop} (HH : HRel w h γ) (hk : allocP E t h K) : HeapOK P w h γ (Instr.alloc t true (.tuple #[])) K := by
  unfold allocP at hk
  split at hk
  · exact hk.elim
  rename_i ti hti
  obtain ⟨hz, hk⟩ := br_t hk
  obtain ⟨z, hz1, hz2⟩ := H.zero hti (Nat.eq_of_beq_eq_true hz)
  refine ⟨_, _, ?_, newP_ok HH (mv_leaves (hz2 w _)) hk⟩
  simp [Instr.alloc, hz1, newVar, newRow]

/-! ### Building -/
theorem setN_rel {α β : Type} {R : α → β → Prop} : ∀ {xs : List α} {us : List β} {l : List α} {m : List β} {o : Nat}, Pt R l m → Pt R xs us → Pt R (setN l o xs) (setN m o us)
  | [], us, l, m, o, hl, hx => by obtain rfl := hx.nil_inv; exact hl
  | x :: xs, us, l, m, o, hl, hx => by
    obtain ⟨u, us, rfl, hr, hx2⟩ := hx.inv
    exact setN_rel (l := l.set o x) (m := m.set o u) (hl.set o hr) hx2
theorem setN_len {α : Type} : ∀ {xs l : List α} {o : Nat}, (setN l o xs).length = l.length
  | [], l, o => rfl
  | x :: xs, l, o => by rw [setN, setN_len]; simp
theorem setN_arr : ∀ {vs : List Value} {cs : Array Value} {o j : Nat}, ((vs.zipIdx j).foldl (fun cs (p : Value × Nat) => cs.setIfInBounds (o + p.2) p.1) cs).toList = setN cs.toList (o + j) vs
  | [], cs, o, j => rfl
  | v :: vs, cs, o, j => by
    rw [List.zipIdx_cons, List.foldl_cons, setN_arr (vs := vs)]
    simp [setN, Nat.add_assoc]
theorem fill_arr (v : Value) (cs : Array Value) (o : Nat) : (v.cells.zipIdx.foldl (fun cs (c, j) => cs.setIfInBounds (o + j) c) cs).toList = setN cs.toList o v.cells.toList := by
  rw [← Array.foldl_toList, Array.toList_zipIdx]
  exact setN_arr
theorem fillP_ok {place : Nat → Option (Nat × Nat)} {fs : List (Nat × Nat)} (hpl : ∀ i o n, fs[i]? = some (o, n) → place i = some (o, n)) {zs : List D} : ∀ {ps : List (Nat × AV)} {qs : List (Nat × Value)} {acc : List Lf} {cs : Array Value} {K : List Lf → Prop},
    Pt (fun p q => p.1 = q.1 ∧ VRel w h γ p.2 q.2) ps qs → Pt (LRel w h γ) acc cs.toList → fillP fs zs acc ps K → ∃ l cs', K l ∧ Instr.fill place cs qs = some cs' ∧ Pt (LRel w h γ) l cs'.toList
  | [], qs, acc, cs, K, hp, ha, hk => by obtain rfl := hp.nil_inv; exact ⟨acc, cs, hk, rfl, ha⟩
  | (i, v) :: ps, qs, acc, cs, K, hp, ha, hk => by
    obtain ⟨⟨i', u⟩, qs, rfl, ⟨he, hv⟩, hp2⟩ := hp.inv
    simp only at he hv
    subst he
    unfold fillP at hk
    split at hk
    · rename_i o n hf
      obtain ⟨t, rfl, hk2⟩ := onT_inv hk
      obtain ⟨hb, hk3⟩ := br_t hk2
      simp only [Bool.and_eq_true] at hb
      have h1 := Nat.eq_of_beq_eq_true hb.1
      have h2 := Nat.le_of_ble_eq_true hb.2
      have hl0 := leaves_rel hv
      have hl := cast_ls (zs := (zs.drop o).take n) hl0
      have hsz : u.cells.size = n := by have := hl0.1; simp at this; omega
      have hcs : cs.size = acc.length := by have := ha.1; simp at this; omega
      have hr := setN_rel (o := o) ha hl
      rw [← fill_arr] at hr
      obtain ⟨l, cs', g1, g2, g3⟩ := fillP_ok hpl hp2 hr hk3
      refine ⟨l, cs', g1, ?_, g3⟩
      rw [Instr.fill, hpl i o n hf]
      simp only [hsz, ne_eq, not_true_eq_false, decide_false, Bool.false_or, decide_eq_true_eq]
      rw [if_neg (by omega)]
      exact g2
    · exact hk.elim
theorem build_ok (H : EOK P E) {t : TypeId} {ps : List (Nat × AV)} {qs : Array (Nat × Value)} {K : AV → Prop} (hp : Pt (fun p q => p.1 = q.1 ∧ VRel w h γ p.2 q.2) ps qs.toList) (hk : buildP E t ps K) : PureOK P w h γ (Instr.build t qs) K := by
  unfold buildP at hk
  split at hk
  · exact hk.elim
  rename_i ti hti
  obtain ⟨hz, hk⟩ := br_t hk
  split at hk
  · rename_i fs hkk
    have ht := (H t ti hti).kind
    rw [hkk] at ht
    obtain ⟨fields, hu, hm⟩ := ht
    obtain ⟨i, h1, h2, h3, h4⟩ := (H t ti hti).info
    obtain ⟨z, hz1, hz2⟩ := h4 (Nat.eq_of_beq_eq_true hz)
    obtain ⟨l, cs, g1, g2, g3⟩ := fillP_ok (place := (fs.toArray[·]?)) (fun i o n hf => by simpa using hf) hp (mv_leaves (hz2 w _)) hk
    refine ⟨.agg cs, _, run_build w t qs cs ?_, g1, cs, rfl, g3⟩
    simp only [Program.built, h1, hu, hz1, hm]
    exact g2
  · exact hk.elim
theorem flat_set {sz : Nat} {es : List (List D)} (hU : Uni sz es) {i : Nat} (hi : i < es.length) {ys : List D} (hy : ys.length = sz) : (es.set i ys).flatten = setN es.flatten (i * sz) ys := by
  induction es generalizing i with
  | nil => simp at hi
  | cons e es ih =>
    have h0 : e.length = sz := hU e (by simp)
    have app : ∀ (ys a b : List D) (o : Nat), o + ys.length ≤ a.length → setN (a ++ b) o ys = setN a o ys ++ b := by
      intro ys
      induction ys with
      | nil => intro a b o _; rfl
      | cons y ys ih =>
        intro a b o ho
        simp at ho
        simp only [setN]
        rw [List.set_append_left _ _ (by omega), ih _ _ _ (by simp; omega)]
    have app2 : ∀ (ys a b : List D) (o : Nat), setN (a ++ b) (a.length + o) ys = a ++ setN b o ys := by
      intro ys
      induction ys with
      | nil => intro a b o; rfl
      | cons y ys ih =>
        intro a b o
        simp only [setN]
        rw [List.set_append_right _ _ (by omega), show a.length + o - a.length = o by omega, show a.length + o + 1 = a.length + (o + 1) by omega, ih]
    have all : ∀ (ys a p : List D), p.length + ys.length = (p ++ a).length → setN (p ++ a) p.length ys = p ++ ys := by
      intro ys
      induction ys with
      | nil => intro a p hl; simp at hl; subst hl; simp [setN]
      | cons y ys ih =>
        intro a p hl
        cases a with
        | nil => simp at hl
        | cons x a =>
          simp only [setN]
          rw [List.set_append_right _ _ (Nat.le_refl _), Nat.sub_self, List.set_cons_zero]
          have := ih a (p ++ [y]) (by simp at hl ⊢; omega)
          simpa using this
    cases i with
    | zero =>
      simp only [List.set_cons_zero, List.flatten_cons, Nat.zero_mul]
      rw [app _ _ _ _ (by omega)]
      have := all ys e [] (by simp; omega)
      simp at this
      rw [this]
    | succ i =>
      simp only [List.set_cons_succ, List.flatten_cons]
      rw [ih hU.tail (by simpa using hi), show (i + 1) * sz = e.length + i * sz by rw [Nat.succ_mul, h0]; omega, app2]
theorem fillS_ok {n : Nat} {zs : List D} : ∀ {ps : List (Nat × AV)} {qs : List (Nat × Value)} {es : List (List D)} {cs : Array Value} {h : List Obj} {K : List (List D) → List Obj → Prop}, HRel w h γ → Uni n es →
    Pt (fun p q => p.1 = q.1 ∧ VRel w h γ p.2 q.2) ps qs → Pt (DRel w (Ro w h γ)) es.flatten cs.toList → fillS n zs es ps h K →
    ∃ es' h' cs', K es' h' ∧ Instr.fill (fun i => some (i * n, n)) cs qs = some cs' ∧ Pt (DRel w (Ro w h' γ)) es'.flatten cs'.toList ∧ Uni n es' ∧ es'.length = es.length ∧ Step w h γ w h' γ ∧ h'.length = h.length
  | [], qs, es, cs, h, K, HH, hU, hp, ha, hk => by obtain rfl := hp.nil_inv; exact ⟨es, h, cs, hk, rfl, ha, hU, rfl, Step.refl HH, rfl⟩
  | (i, v) :: ps, qs, es, cs, h, K, HH, hU, hp, ha, hk => by
    obtain ⟨⟨i', u⟩, qs, rfl, ⟨he, hv⟩, hp2⟩ := hp.inv
    simp only at he hv
    subst he
    unfold fillS at hk
    obtain ⟨t, rfl, hk2⟩ := onT_inv hk
    obtain ⟨hb, hk3⟩ := br_t hk2
    simp only [Bool.and_eq_true] at hb
    have h1 := Nat.eq_of_beq_eq_true hb.1
    have h2 : i < es.length := by simpa [Nat.blt_eq] using hb.2
    have hl := leaves_rel hv
    obtain ⟨ys, h', hk4, hys, st, hlen, _⟩ := toDs_ok HH hl hk3
    have hsz : u.cells.size = n := by have := hl.1; simp at this; omega
    replace hys := cast_ds (zs := zs) hys
    have hyl : (castDs zs ys).length = n := by rw [hys.1]; simpa using hsz
    have hcs : cs.size = es.length * n := by have := ha.1; rw [hU.len] at this; simpa using this.symm
    have hr := setN_rel (o := i * n) (ha.mono fun x y _ hxy => hxy.fr st.fr) hys
    rw [← fill_arr, ← flat_set hU h2 hyl] at hr
    obtain ⟨es', h'', cs', g1, g2, g3, g4, g5, g6, g7⟩ := fillS_ok st.rel (hU.set i hyl) (hp2.mono fun x y _ hxy => ⟨hxy.1, hxy.2.move st.fr st.evo⟩) hr hk4
    refine ⟨es', h'', cs', g1, ?_, g3, g4, by simpa using g5, st.trans g6, g7.trans hlen⟩
    rw [Instr.fill]
    have := Nat.mul_le_mul_right n (show i + 1 ≤ es.length by omega)
    rw [Nat.succ_mul] at this
    simp only [hsz, ne_eq, not_true_eq_false, decide_false, Bool.false_or, decide_eq_true_eq]
    rw [if_neg (by omega)]
    exact g2
end
end Go.Proofs.YtahlcbmmjfdcaaaGreatDoor.PX
