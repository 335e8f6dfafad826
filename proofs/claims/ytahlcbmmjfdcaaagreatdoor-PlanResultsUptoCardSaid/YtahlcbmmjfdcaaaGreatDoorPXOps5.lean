/- PX, part 8: slices that are made, stores, maps that are written, iterators over strings. -/
import Derived.Test.YtahlcbmmjfdcaaaGreatDoorPXOps4
set_option linter.all false
namespace Go.Proofs.YtahlcbmmjfdcaaaGreatDoor.PX
set_option linter.unusedVariables false
set_option linter.unusedSimpArgs false
section
variable {P : Program} {E : Env} {w : World} {h : List Obj} {γ : Gam}
/-- The cells of so many elements of value z. -/
theorem zero_cells {n size : Nat} {z : Array Value} (hz : z.size = size) : ((Array.range (n * size)).map (z[· % z.size]!)).toList = (List.replicate n z.toList).flatten := by
  apply List.ext_getElem?
  intro j
  have hl : (List.replicate n z.toList).flatten.length = n * size := by simp [hz]
  by_cases hj : j < n * size
  · have hpos : 0 < size := by
      rcases Nat.eq_zero_or_pos size with h0 | h0
      · subst h0; simp at hj
      · exact h0
    have hm : j % size < size := Nat.mod_lt _ hpos
    have e : (List.replicate n z.toList).flatten[j]? = z.toList[j % size]? := by
      clear hl
      induction n generalizing j with
      | zero => simp at hj
      | succ n ih =>
        rw [List.replicate_succ, List.flatten_cons]
        by_cases hjs : j < size
        · rw [List.getElem?_append_left (by simpa [hz] using hjs), Nat.mod_eq_of_lt hjs]
        · rw [List.getElem?_append_right (by simp [hz]; omega)]
          simp only [Array.length_toList, hz]
          rw [ih (j - size) (by rw [Nat.succ_mul] at hj; omega) (Nat.mod_lt _ hpos), ← Nat.mod_eq_sub_mod (by omega)]
    rw [e]
    simp [hj, hz, Array.getElem!_eq_getD, Array.getD_eq_getD_getElem?, hm]
  · rw [List.getElem?_eq_none (by simp; omega), List.getElem?_eq_none (by omega)]
theorem uni_replicate {n sz : Nat} {x : List D} (hx : x.length = sz) : Uni sz (List.replicate n x) := fun e he => by rw [List.eq_of_mem_replicate he]; exact hx
theorem pt_replicate {α β : Type} {R : α → β → Prop} {l : List α} {m : List β} (hp : Pt R l m) (n : Nat) : Pt R (List.replicate n l).flatten (List.replicate n m).flatten := by
  induction n with
  | zero => exact Pt.nil
  | succ n ih => simp only [List.replicate_succ, List.flatten_cons]; exact hp.append ih
theorem mv_cells {ag : Bool} {l : List D} {z : Value} {N : Nat → Prop} (hm : MV w N ag l z) : Pt (DRel w N) l z.cells.toList := by
  cases ag with
  | true => obtain ⟨cs, rfl, hp⟩ := hm; exact hp
  | false =>
    obtain ⟨x, rfl, hr⟩ := hm
    have : z.cells = #[z] := by have := hr.one; cases z <;> first | rfl | cases this
    rw [this]
    exact Pt.cons hr Pt.nil
/-- A new row over a new block. -/
theorem new_row (HH : HRel w h γ) {sz : Nat} {es : List (List D)} {cs : Array Value} (t : TypeId) (hU : Uni sz es) (hle : es.length * sz ≤ cs.size) (hp : Pt (DRel w (Ro w h γ)) es.flatten (cs.toList.take (es.length * sz))) {cap : Nat}
    (hc : es.length ≤ cap) (hcap : cap * sz ≤ cs.size) :
    VRel (w.alloc (.cells cs t)) (h ++ [.row sz es 0]) (upd γ h.length (some (w.heap.size, 0))) (.lf (.rw h.length 0)) (.slice (some ⟨w.heap.size, 0, none⟩) es.length cap) ∧
    Step w h γ (w.alloc (.cells cs t)) (h ++ [.row sz es 0]) (upd γ h.length (some (w.heap.size, 0))) := by
  refine ⟨⟨rfl, by simp, fun sz' es' k ho => ?_⟩, Step.new HH _ _ fun γ' hγ f e => by subst hγ; exact ⟨hU, by rw [upd_same]; exact ⟨cs, t, heap_alloc_at _ _, by omega, by rw [List.drop_zero]; exact hp.mono fun x y _ hxy => hxy.fr f⟩⟩⟩
  · simp at ho
    obtain ⟨rfl, rfl, rfl⟩ := ho
    refine ⟨Nat.le_refl _, fun _ => ?_⟩
    unfold RowV
    rw [upd_same]
    exact ⟨by omega, _, cap, rfl, hc, by omega, fun _ => by simp, cs, t, heap_alloc_at _ _, by rw [Nat.zero_add, Nat.zero_add]; exact hcap⟩
theorem buildSlice_ok (H : EOK P E) (HH : HRel w h γ) {t : TypeId} {len : Nat} {ps : List (Nat × AV)} {qs : Array (Nat × Value)} {K : AV → List Obj → Prop} (hp : Pt (fun p q => p.1 = q.1 ∧ VRel w h γ p.2 q.2) ps qs.toList)
    (hk : buildSliceP E t len ps h K) : HeapOK P w h γ (Instr.buildSlice t len qs) K := by
  unfold buildSliceP at hk
  split at hk
  · rename_i e hkd
    have hu : P.underlying t = some (.slice e) := H.kd hkd
    split at hk
    · exact hk.elim
    rename_i te hte
    obtain ⟨hb, hk⟩ := br_t hk
    simp only [Bool.and_eq_true] at hb
    have h1 := Nat.le_of_ble_eq_true hb.1
    have h2 := Nat.eq_of_beq_eq_true hb.2
    obtain ⟨i, i1, i2, i3, i4⟩ := (H e te hte).info
    obtain ⟨z, z1, z2⟩ := i4 h2
    have hzc := mv_cells (z2 w (Ro w h γ))
    have hzs : z.cells.size = te.size := by have := hzc.1; simp at this; omega
    have hflat : Pt (DRel w (Ro w h γ)) (List.replicate len te.zero).flatten ((Array.range (len * te.size)).map (z.cells[· % z.cells.size]!)).toList := by
      rw [zero_cells hzs]
      exact pt_replicate hzc len
    obtain ⟨es, h', cs, g1, g2, g3, g4, g5, g6, g7⟩ := fillS_ok HH (uni_replicate h2) hp hflat hk
    have hlen : es.length = len := by simpa using g5
    have hcs : cs.size = len * te.size := by have := g3.1; rw [g4.len, hlen] at this; simpa using this.symm
    have hrun : (Instr.buildSlice t len qs).run P w = .ok (.slice (some ⟨w.heap.size, 0, none⟩) len len) (w.alloc (.cells cs e)) := by
      by_cases hpos : len * te.size = 0
      · have e0 : ∀ f : Nat → Value, (Array.range (len * te.size)).map f = #[] := fun f => by rw [hpos]; simp
        rw [e0] at g2
        have e00 : ∀ f : Nat → Value, (Array.range 0).map f = #[] := fun f => by simp
        simp only [Instr.buildSlice, Sem.run_bind, run_underlying hu w, Result.andThen_ok, H.size hte w, hpos, if_true, Sem.run_pure, e00, g2, show ¬ (0 > 2 ^ 24) by omega, if_false, Sem.run_ite, newRow, run_newObj]
        rfl
      · refine run_buildSlice w t e len qs cs i z hu i1 z1 (by rw [i2]; omega) (by rw [i2]; exact hpos) ?_
        rw [i2]
        exact g2
    obtain ⟨r1, r2⟩ := new_row g6.rel (cs := cs) (cap := len) e g4 (by rw [hlen, hcs]; exact Nat.le_refl _) (by rw [List.take_of_length_le (by simp; rw [hlen, hcs]; exact Nat.le_refl _)]; exact g3) (by omega) (by omega)
    rw [hlen] at r1
    exact ⟨_, _, hrun, _, _, _, g1, r1, g6.trans r2⟩
  · exact hk.elim

/-! ### Stores -/
theorem setRow_other {b g : Nat} {cs : Array Value} (hb : b ≠ g) : (w.setRow g cs).heap[b]? = w.heap[b]? := by
  simp only [World.setRow, Array.getElem?_modify]
  rw [if_neg (fun e => hb e.symm)]
theorem setN_eq {α : Type} : ∀ {xs l : List α} {o : Nat}, o + xs.length ≤ l.length → setN l o xs = l.take o ++ xs ++ l.drop (o + xs.length)
  | [], l, o, _ => by simp [setN]
  | x :: xs, l, o, ho => by
    simp only [List.length_cons] at ho
    rw [setN, setN_eq (by simp; omega)]
    apply List.ext_getElem?
    intro j
    have h1 : (l.take o).length = o := by simp; omega
    have h2 : ((l.set o x).take (o + 1)).length = o + 1 := by simp; omega
    by_cases hj : j < o
    · rw [List.append_assoc, List.append_assoc, List.getElem?_append_left (by omega), List.getElem?_append_left (by omega), List.getElem?_take, List.getElem?_take, if_pos (by omega), if_pos hj, List.getElem?_set, if_neg (by omega)]
    · rcases Nat.lt_or_ge j (o + 1) with hj1 | hj1
      · obtain rfl : j = o := by omega
        rw [List.append_assoc, List.append_assoc, List.getElem?_append_left (by omega), List.getElem?_append_right (by omega), List.getElem?_take, if_pos (by omega), List.getElem?_set, if_pos rfl, if_pos (by omega), h1]
        simp
      · rw [List.append_assoc, List.append_assoc, List.getElem?_append_right (show (List.take (o + 1) (l.set o x)).length ≤ j by omega), List.getElem?_append_right (show (List.take o l).length ≤ j by omega), h1, h2, show j - o = (j - (o + 1)) + 1 by omega, List.cons_append, List.getElem?_cons_succ, List.drop_set_of_lt (by omega), List.length_cons, show o + 1 + xs.length = o + (xs.length + 1) by omega]
theorem run_store (H : EOK P E) {t : TypeId} {ti : TI} (hti : E.T t = some ti) {b o : Nat} {cs : Array Value} {e : TypeId} (hb : w.heap[b]? = some (.cells cs e (0, 0))) {u : Value} (hs : u.cells.size = ti.size) (hle : o + u.cells.size ≤ cs.size) (h1 : ∀ x ∈ u.cells.toList, x.oneCell' = true) :
    (Instr.storeAt t (.pointer (some ⟨b, o, none⟩)) u).run P w = .ok () (w.setRow b (setN cs.toList o u.cells.toList).toArray) := by
  have e1 := run_storeCells_at (P := P) b o e u.cells.toList 0 cs w hb (by simpa using hle) h1
  simp only [Instr.storeAt, Instr.sureAddr, storeVar, Sem.run_bind, Sem.run_pure, Result.andThen_ok, H.size hti w, hs, ne_eq, not_true_eq_false, if_false]
  rw [e1, setN_eq (by simpa using hle)]
  rfl
theorem has_setRow {b g n : Nat} {cs cs' : Array Value} {e : TypeId} (hb : w.heap[b]? = some (.cells cs e (0, 0))) (hsz : cs'.size = cs.size) (hh : Has w g n) : Has (w.setRow b cs') g n := by
  obtain ⟨ds, t, hd, hn⟩ := hh
  by_cases hg : g = b
  · subst hg
    rw [hb] at hd
    simp at hd
    obtain ⟨rfl, rfl⟩ := hd
    exact ⟨cs', _, setRow_heap w _ _ _ _ _ hb, by omega⟩
  · exact ⟨ds, t, by rw [setRow_other hg]; exact hd, hn⟩
theorem turn_cells (HH : HRel w h γ) {id : Nat} {o o' : Obj} (hid : h[id]? = some o) (hd : o.isDead = false) {b p : Nat} (hg : γ id = some (b, p)) {cs cs' : Array Value} {e : TypeId} (hb : w.heap[b]? = some (.cells cs e (0, 0))) (hsz : cs'.size = cs.size)
    (hoe : OE w γ (w.setRow b cs') γ id o o') (ho : Fr w h γ (w.setRow b cs') (h.set id o') γ → Evo w h γ (w.setRow b cs') (h.set id o') γ → ORel (w.setRow b cs') (h.set id o') γ id o') :
    Step w h γ (w.setRow b cs') (h.set id o') γ := by
  have := Step.turn HH hid o' (w' := w.setRow b cs') (γ id) rfl rfl rfl (by simp) (fun b' _ hb' => setRow_other (fun e => by
    subst e
    have := hb' p hg
    rw [hd] at this; cases this)) (fun _ b' p' hg' => .inr ⟨⟨p', hg'⟩, hd⟩) (by rw [upd_self]; exact hoe) (by rw [upd_self]; exact ho)
  rwa [upd_self] at this
theorem cells_one {l : List Lf} {us : List Value} (hp : Pt (LRel w h γ) l us) : ∀ x ∈ us, x.oneCell' = true := by
  intro x hx
  obtain ⟨i, hi⟩ := List.getElem?_of_mem hx
  have : i < l.length := by rw [hp.1]; exact (List.getElem?_eq_some_iff.1 hi).1
  exact LRel.one (hp.2 i _ x (List.getElem?_eq_getElem this) hi)
theorem data_one {l : List D} {us : List Value} {N : Nat → Prop} (hp : Pt (DRel w N) l us) : ∀ x ∈ us, x.oneCell' = true := by
  intro x hx
  obtain ⟨i, hi⟩ := List.getElem?_of_mem hx
  have : i < l.length := by rw [hp.1]; exact (List.getElem?_eq_some_iff.1 hi).1
  exact (hp.2 i _ x (List.getElem?_eq_getElem this) hi).one
/-- Leaves stored into a variable. -/
theorem store_cells (H : EOK P E) (HH : HRel w h γ) {t : TypeId} {ti : TI} (hti : E.T t = some ti) {id off : Nat} {l : List Lf} (hid : h[id]? = some (.cells l)) {u : Value} {xs : List Lf} (hx : Pt (LRel w h γ) xs u.cells.toList) (hs : ti.size = xs.length)
    (hle : off + xs.length ≤ l.length) {b p : Nat} (hg : γ id = some (b, p)) : ∃ w', (Instr.storeAt t (.pointer (some ⟨b, p + off, none⟩)) u).run P w = .ok () w' ∧ Step w h γ w' (h.set id (.cells (setN l off xs))) γ := by
  obtain ⟨b', cs, e, hg', hb, hp⟩ := HH.obj _ _ hid
  rw [hg] at hg'
  simp at hg'
  obtain ⟨rfl, rfl⟩ := hg'
  have hcs : cs.size = l.length := by have := hp.1; simpa using this.symm
  have hus : u.cells.size = xs.length := by have := hx.1; simpa using this.symm
  refine ⟨_, by rw [Nat.zero_add]; exact run_store H hti hb (by omega) (by omega) (cells_one hx), ?_⟩
  refine turn_cells HH hid rfl hg hb (by simp [setN_len]) (.inr rfl) fun f ev => ⟨b, _, e, hg, setRow_heap w _ _ _ _ _ hb, ?_⟩
  rw [List.toList_toArray]
  exact setN_rel (hp.mono fun x y _ hxy => hxy.move f ev) (hx.mono fun x y _ hxy => hxy.move f ev)
theorem renew_ok (HH : HRel w h γ) {t : TypeId} {l : List Lf} {off : Nat} {x : Lf} {u : Value} (hx : LRel w h γ x u) :
    ∃ γ', Step w h γ w (renew E t l off x h).2 γ' ∧ LRel w (renew E t l off x h).2 γ' (renew E t l off x h).1 u ∧ (∀ i cs, h[i]? = some (.cells cs) → γ' i = γ i ∧ (renew E t l off x h).2[i]? = h[i]?) := by
  unfold renew
  split
  · split
    · rename_i te _
      have st := Step.newNil HH te.size
      refine ⟨_, st, ?_, fun i cs hi => have hi := (List.getElem?_eq_some_iff.1 hi).1; ⟨upd_ne (by omega), List.getElem?_append_left hi⟩⟩
      cases hx with
      | sl us h1 h2 h3 =>
        obtain ⟨rfl, _, rfl⟩ := h3 rfl
        refine ⟨rfl, by simp, fun sz' es k ho => ?_⟩
        simp at ho
        obtain ⟨rfl, rfl, rfl⟩ := ho
        refine ⟨Nat.le_refl _, fun _ => ?_⟩
        unfold RowV
        rw [upd_same]
        exact ⟨rfl, rfl, none, rfl⟩
    · exact ⟨γ, Step.refl HH, hx, fun _ _ _ => ⟨rfl, rfl⟩⟩
  · rename_i id ver len _ _ _
    split
    · rename_i sz es v ho
      split
      · rename_i hb
        obtain ⟨ho', hr⟩ := rows_of hx ho hb
        obtain ⟨hU, hrow⟩ := HH.obj _ _ ho'
        have hlt := (List.getElem?_eq_some_iff.1 ho').1
        have hlen : len ≤ es.length := by
          unfold RowV at hr
          split at hr
          · obtain ⟨_, rfl, _⟩ := hr; omega
          · have := hr.1; omega
        have htl : (es.take len).length = len := by simp; omega
        have st := Step.turn HH ho' (.row sz (es.take len) (ver + 1)) (w' := w) (γ id) rfl rfl rfl (Nat.le_refl _) (fun _ _ _ => rfl) (fun _ b' p' hg' => .inr ⟨⟨p', hg'⟩, rfl⟩) (.inr ⟨rfl, .inl (by omega)⟩) (fun f ev => by
          rw [upd_self] at f ev ⊢
          refine ⟨hU.take len, ?_⟩
          cases hg : γ id with
          | none => rw [hg] at hrow; simp only at hrow ⊢; rw [hrow]; simp
          | some bp =>
            obtain ⟨b, p⟩ := bp
            rw [hg] at hrow
            obtain ⟨cs, t', hcs, hsz, hp⟩ := hrow
            have hmul := Nat.mul_le_mul_right sz hlen
            refine ⟨cs, t', hcs, by rw [htl]; omega, ?_⟩
            rw [hU.flatten_take, htl]
            have := (hp.take (len * sz)).mono fun x y _ hxy => hxy.fr f
            rwa [List.take_take, Nat.min_eq_left hmul] at this)
        rw [upd_self] at st
        refine ⟨γ, st, ⟨hx.1, by simpa using hlt, fun sz' es' k ho2 => ?_⟩, fun i cs hi => ⟨rfl, ?_⟩⟩
        · rw [List.getElem?_set, if_pos rfl, if_pos hlt] at ho2
          simp at ho2
          obtain ⟨rfl, rfl, rfl⟩ := ho2
          refine ⟨Nat.le_refl _, fun _ => ?_⟩
          unfold RowV at hr ⊢
          rw [htl]
          split at hr
          · obtain ⟨_, rfl, a, rfl⟩ := hr; exact ⟨rfl, rfl, a, rfl⟩
          · obtain ⟨g1, a, cap, rfl, g2, g3, g4, g5⟩ := hr
            exact ⟨by omega, a, cap, rfl, g2, by omega, g4, g5⟩
        · rw [List.getElem?_set, if_neg (fun e => by subst e; rw [ho'] at hi; cases hi)]
      · exact ⟨γ, Step.refl HH, hx, fun _ _ _ => ⟨rfl, rfl⟩⟩
    · exact ⟨γ, Step.refl HH, hx, fun _ _ _ => ⟨rfl, rfl⟩⟩
  · exact ⟨γ, Step.refl HH, hx, fun _ _ _ => ⟨rfl, rfl⟩⟩
theorem setN_get {α : Type} : ∀ {xs l : List α} {o : Nat}, o + xs.length ≤ l.length → ∀ j, (setN l o xs)[j]? = if o ≤ j ∧ j < o + xs.length then xs[j - o]? else l[j]?
  | [], l, o, _, j => by rw [setN, if_neg (by simp)]
  | x :: xs, l, o, ho, j => by
    simp only [List.length_cons] at ho
    rw [setN, setN_get (by simp; omega) j, List.getElem?_set]
    by_cases h1 : o = j
    · subst h1
      rw [if_neg (by omega), if_pos rfl, if_pos (by omega), if_pos (by simp), Nat.sub_self]
      rfl
    · rw [if_neg h1]
      by_cases h2 : o + 1 ≤ j ∧ j < o + 1 + xs.length
      · rw [if_pos h2, if_pos (by simp; omega), show j - o = (j - (o + 1)) + 1 by omega, List.getElem?_cons_succ]
      · rw [if_neg h2, if_neg (by simp; omega)]
theorem setN_seg {cs : List Value} {p n i : Nat} {us : List Value} (h1 : i + us.length ≤ n) (h2 : p + n ≤ cs.length) : ((setN cs (p + i) us).drop p).take n = setN ((cs.drop p).take n) i us := by
  apply List.ext_getElem?
  intro j
  rw [List.getElem?_take, List.getElem?_drop, setN_get (by omega), setN_get (by simp; omega)]
  by_cases hj : j < n
  · rw [if_pos hj]
    by_cases h3 : i ≤ j ∧ j < i + us.length
    · rw [if_pos (by omega), if_pos h3, show p + j - (p + i) = j - i by omega]
    · rw [if_neg (by omega), if_neg h3, List.getElem?_take, if_pos hj, List.getElem?_drop]
  · rw [if_neg hj, if_neg (by omega), List.getElem?_take, if_neg hj]
theorem setN_app {α : Type} {ys a b : List α} {o : Nat} (h : o + ys.length ≤ a.length) : setN (a ++ b) o ys = setN a o ys ++ b := by
  apply List.ext_getElem?
  intro j
  have e : (setN a o ys).length = a.length := setN_len
  rw [setN_get (by simp; omega)]
  by_cases hj : j < a.length
  · rw [List.getElem?_append_left (show j < (setN a o ys).length by omega), setN_get h, List.getElem?_append_left hj]
  · rw [List.getElem?_append_right (show (setN a o ys).length ≤ j by omega), e, if_neg (by omega), List.getElem?_append_right (by omega)]
theorem setN_app2 {α : Type} {ys a b : List α} {o : Nat} (h : o + ys.length ≤ b.length) : setN (a ++ b) (a.length + o) ys = a ++ setN b o ys := by
  apply List.ext_getElem?
  intro j
  rw [setN_get (by simp; omega)]
  by_cases hj : j < a.length
  · rw [if_neg (by omega), List.getElem?_append_left hj, List.getElem?_append_left hj]
  · rw [List.getElem?_append_right (by omega), List.getElem?_append_right (by omega), setN_get h]
    by_cases h2 : o ≤ j - a.length ∧ j - a.length < o + ys.length
    · rw [if_pos (by omega), if_pos h2, show j - (a.length + o) = j - a.length - o by omega]
    · rw [if_neg (by omega), if_neg h2]
theorem flat_setN {sz : Nat} {es : List (List D)} (hU : Uni sz es) {i off : Nat} {e : List D} (he : es[i]? = some e) {ys : List D} (hy : off + ys.length ≤ sz) : (es.set i (setN e off ys)).flatten = setN es.flatten (i * sz + off) ys := by
  induction es generalizing i with
  | nil => simp at he
  | cons e0 es ih =>
    have h0 : e0.length = sz := hU e0 (by simp)
    cases i with
    | zero =>
      simp at he
      subst he
      rw [List.set_cons_zero, List.flatten_cons, List.flatten_cons, Nat.zero_mul, Nat.zero_add, setN_app (by omega)]
    | succ i =>
      simp at he
      have hi := (List.getElem?_eq_some_iff.1 he).1
      rw [List.set_cons_succ, List.flatten_cons, List.flatten_cons, ih hU.tail he, show (i + 1) * sz + off = e0.length + (i * sz + off) by rw [Nat.succ_mul, h0]; omega, setN_app2]
      rw [hU.tail.len]
      have := Nat.mul_le_mul_right sz (show i + 1 ≤ es.length by omega)
      rw [Nat.succ_mul] at this
      omega
theorem store_ok (H : EOK P E) (HH : HRel w h γ) {t : TypeId} {a v : AV} {u u' : Value} {K : List Obj → Prop} (ha : VRel w h γ a u) (hv : VRel w h γ v u') (hk : storeP E t a v h K) :
    ∃ w' h' γ', (Instr.storeAt t u u').run P w = .ok () w' ∧ K h' ∧ Step w h γ w' h' γ' := by
  unfold storeP at hk
  split at hk
  · exact hk.elim
  rename_i ti hti
  split at hk
  · rename_i id off
    split at hk
    · rename_i l ho
      have ho' := obj_of ha.2.1 ho
      obtain ⟨b, p, hg, rfl⟩ := ha.2.2 _ ho' rfl
      split at hk
      · rename_i x
        obtain ⟨hb, hk2⟩ := br_t hk
        simp only [Bool.and_eq_true] at hb
        have h1 : off < l.length := by simpa [Nat.blt_eq] using hb.1
        have h2 := Nat.eq_of_beq_eq_true hb.2
        obtain ⟨γ1, st, hx, hold⟩ := renew_ok (E := E) HH (t := t) (l := l) (off := off) (cast_o (zs := ti.zero) hv)
        obtain ⟨hg1, ho1⟩ := hold id l ho'
        have hu1 := LRel.one (x := x) hv
        have hcells : u'.cells = #[u'] := by cases u' <;> first | rfl | cases hu1
        obtain ⟨w', hr, st2⟩ := store_cells H st.rel hti (ho1.trans ho') (u := u') (xs := [(renew E t l off (castO ti.zero x) h).1]) (by rw [hcells]; exact Pt.cons hx Pt.nil) h2 h1 (hg1.trans hg)
        exact ⟨w', _, _, hr, hk2, st.trans st2⟩
      · rename_i xs
        obtain ⟨hb, hk2⟩ := br_t hk
        simp only [Bool.and_eq_true] at hb
        obtain ⟨cs, rfl, hp⟩ := hv
        obtain ⟨w', hr, st2⟩ := store_cells H HH hti ho' (u := .agg cs) (xs := castLs ti.zero xs) (cast_ls hp) (by rw [castLs_len]; exact Nat.eq_of_beq_eq_true hb.2) (by rw [castLs_len]; exact Nat.le_of_ble_eq_true hb.1) hg
        exact ⟨w', _, _, hr, hk2, st2⟩
      · exact hk.elim
    · rename_i l ho
      have ho' := obj_of ha.2.1 ho
      obtain ⟨b, p, hg, rfl⟩ := ha.2.2 _ ho' rfl
      obtain ⟨v, rfl, hk2⟩ := onT_inv hk
      obtain ⟨hb, hk3⟩ := br_t hk2
      obtain ⟨hle, hk3⟩ := gd_d hk3
      simp only [Bool.and_eq_true, Bool.not_eq_true', List.any_eq_false] at hb
      have hts := Nat.eq_of_beq_eq_true hb.1
      have hlv := leaves_rel hv
      obtain ⟨ys, h', hk4, hys, st, hl, hold⟩ := toDs_ok HH hlv hk3
      replace hys := cast_ds (zs := ti.zero) hys
      have hus : u'.cells.size = (leaves v).length := by have := hlv.1; simpa using this.symm
      have hone := cells_one hlv
      have ho2 := (hold id (fun hm => by rw [ids_leaves] at hm; exact absurd (Nat.beq_refl id) (by simpa using hb.2 id hm))).trans ho'
      obtain ⟨b2, cs, e, hg2, hb2, hp⟩ := st.rel.obj _ _ ho2
      rw [hg] at hg2
      simp at hg2
      obtain ⟨rfl, rfl⟩ := hg2
      have hcs : cs.size = l.length := by have := hp.1; simpa using this.symm
      refine ⟨_, _, γ, by rw [Nat.zero_add]; exact run_store H hti hb2 (by omega) (by omega) hone, hk4, ?_⟩
      refine st.trans (turn_cells st.rel ho2 rfl hg hb2 (by simp [setN_len]) (.inr rfl) fun f ev => ⟨b, _, e, hg, setRow_heap w _ _ _ _ _ hb2, ?_⟩)
      rw [List.toList_toArray]
      exact setN_rel (hp.mono fun x y _ hxy => hxy.fr f) (hys.mono fun x y _ hxy => hxy.fr f)
    · exact hk.elim
  · rename_i id ver i off
    split at hk
    · rename_i sz es v' ho
      have ho' := obj_of ha.2.1 ho
      obtain ⟨v, rfl, hk2⟩ := onT_inv hk
      obtain ⟨hb, hk3⟩ := br_t hk2
      simp only [Bool.and_eq_true, Bool.not_eq_true', List.any_eq_false] at hb
      have hve := Nat.eq_of_beq_eq_true hb.1.1.1
      have hle := Nat.le_of_ble_eq_true hb.1.1.2
      have hts := Nat.eq_of_beq_eq_true hb.1.2
      subst hve
      obtain ⟨b, p, hg, rfl⟩ := (ha.2.2 _ _ _ ho').2 rfl
      obtain ⟨e, he, hk4⟩ := at_inv hk3
      have hlv := leaves_rel hv
      obtain ⟨ys, h', hk5, hys, st, hl, hold⟩ := toDs_ok HH hlv hk4
      replace hys := cast_ds (zs := ti.zero) hys
      have hus : u'.cells.size = (leaves v).length := by have := hlv.1; simpa using this.symm
      have hyl : (castDs ti.zero ys).length = (leaves v).length := by rw [hys.1, ← hlv.1]
      have hone := cells_one hlv
      have ho2 := (hold id (fun hm => by rw [ids_leaves] at hm; exact absurd (Nat.beq_refl id) (by simpa using hb.2 id hm))).trans ho'
      obtain ⟨hU, hrow⟩ := st.rel.obj _ _ ho2
      rw [hg] at hrow
      obtain ⟨cs, t', hb2, hsz, hp⟩ := hrow
      have hi := (List.getElem?_eq_some_iff.1 he).1
      have hel : e.length = sz := hU e (List.mem_of_getElem? he)
      have hmul := Nat.mul_le_mul_right sz (show i + 1 ≤ es.length by omega)
      rw [Nat.succ_mul] at hmul
      refine ⟨_, _, γ, run_store H hti hb2 (by omega) (by omega) hone, hk5, ?_⟩
      have hU' : Uni sz (es.set i (setN e off (castDs ti.zero ys))) := hU.set i (by rw [setN_len, hel])
      refine st.trans (turn_cells st.rel ho2 rfl hg hb2 (by simp [setN_len]) (.inr ⟨rfl, .inr ⟨rfl, rfl, by simp, fun b' p' hg' n hn => has_setRow hb2 (by simp [setN_len]) hn⟩⟩) fun f ev => ⟨hU', ?_⟩)
      rw [hg]
      refine ⟨_, t', setRow_heap w _ _ _ _ _ hb2, by simp [setN_len]; exact hsz, ?_⟩
      rw [List.toList_toArray, List.length_set, flat_setN hU he (by omega), setN_seg (by simp; omega) (by simpa using hsz)]
      exact setN_rel (hp.mono fun x y _ hxy => hxy.fr f) (hys.mono fun x y _ hxy => hxy.fr f)
    · exact hk.elim
  · exact hk.elim
end
end Go.Proofs.YtahlcbmmjfdcaaaGreatDoor.PX
