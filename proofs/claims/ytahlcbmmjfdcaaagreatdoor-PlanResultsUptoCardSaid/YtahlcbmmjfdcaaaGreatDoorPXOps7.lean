/- PX, part 10: copy, clear, make, maps, strings' ranges. -/
import Derived.Test.YtahlcbmmjfdcaaaGreatDoorPXOps6
import Derived.Laws.RangeString
import Derived.Lib.OthersKept
set_option linter.all false
namespace Go.Proofs.YtahlcbmmjfdcaaaGreatDoor.PX
set_option linter.unusedVariables false
set_option linter.unusedSimpArgs false
section
variable {P : Program} {E : Env} {w : World} {h : List Obj} {γ : Gam}

/-- Elements of a slice of our own are written: what 'copy' and 'clear' do. -/
theorem lay_ok (H : EOK P E) (HH : HRel w h γ) {sz id ver off len : Nat} {es : List (List D)} (hid : h[id]? = some (.row sz es ver)) {u : Value} (hr : RowV w γ id sz es.length off len u) {es2 : List (List D)} (hle : es2.length ≤ len) (hU2 : Uni sz es2) {us : List Value}
    (hp2 : Pt (DRel w (Ro w h γ)) es2.flatten us) (h1 : ∀ x ∈ us, x.oneCell' = true) : ∃ a cap w', u = .slice a len cap ∧ (match a with | some b => (storeCells b us).run P w = .ok () w' | none => w' = w ∧ us = [] ∧ len = 0) ∧
      Step w h γ w' (h.set id (.row sz (es.take off ++ es2 ++ es.drop (off + es2.length)) ver)) γ := by
  have hul : us.length = es2.length * sz := by rw [← hp2.1, hU2.len]
  have same : es2 = [] → h.set id (.row sz (es.take off ++ es2 ++ es.drop (off + es2.length)) ver) = h := by
    rintro rfl
    obtain ⟨hlt, he⟩ := List.getElem?_eq_some_iff.1 hid
    simp only [List.append_nil, List.length_nil, Nat.add_zero, List.take_append_drop]
    rw [← he, List.set_getElem_self]
  cases hg : γ id with
  | none =>
    unfold RowV at hr
    rw [hg] at hr
    obtain ⟨rfl, rfl, a, rfl⟩ := hr
    have hes2 : es2 = [] := List.eq_nil_of_length_eq_zero (by omega)
    have hus : us = [] := List.eq_nil_of_length_eq_zero (by rw [hul, hes2]; simp)
    subst hus
    refine ⟨a, 0, w, rfl, ?_, by rw [same hes2]; exact Step.refl HH⟩
    cases a with
    | none => exact ⟨rfl, rfl, rfl⟩
    | some b => rfl
  | some bp =>
    obtain ⟨b, p⟩ := bp
    unfold RowV at hr
    rw [hg] at hr
    obtain ⟨g1, a, cap, rfl, g2, g3, g4, g5⟩ := hr
    rcases Nat.eq_zero_or_pos cap with hc0 | hc0
    · have hes2 : es2 = [] := List.eq_nil_of_length_eq_zero (by omega)
      have hus : us = [] := List.eq_nil_of_length_eq_zero (by rw [hul, hes2]; simp)
      subst hus
      refine ⟨a, cap, w, rfl, ?_, by rw [same hes2]; exact Step.refl HH⟩
      cases a with
      | none => exact ⟨rfl, rfl, by omega⟩
      | some b => rfl
    · obtain ⟨cs, t', hcs, hfit, st⟩ := over_ok H HH hid hg (i := off) (es2 := es2) (by omega) hU2 hp2
      refine ⟨a, cap, _, rfl, ?_, st⟩
      rw [g4 hc0]
      have e1 := run_storeCells_at (P := P) b (p + off * sz) t' us 0 cs w hcs (by omega) h1
      simp only
      rw [e1, setN_eq (by simpa using hfit)]
      rfl
theorem copy_ok (H : EOK P E) (HH : HRel w h γ) {t t2 ty : TypeId} {ts : Array TypeId} (h0 : ts[0]? = some t) {x y : AV} {u1 u2 : Value} (hx : VRel w h γ x u1) (hy : VRel w h γ y u2) {K : AV → List Obj → Prop}
    (hk : copyP E t t2 x y h K) : HeapOK P w h γ (Builtin.copy_ ts ty #[u1, u2]) K := by
  unfold copyP at hk
  split at hk
  case h_2 => exact hk.elim
  rename_i e hkd
  have ht : P.underlying t = some (.slice e) := H.kd hkd
  split at hk
  · exact hk.elim
  rename_i te hte
  obtain ⟨sz2, es2, us, hk1, hs, hU2, hp2, ht2⟩ := src_ok H HH hy hk
  clear hk
  have hul : us.length = es2.length * te.size := by rw [← hp2.1, hU2.len]
  have go : ∀ {sz es id ver off len}, h[id]? = some (.row sz es ver) → sz = te.size → RowV w γ id sz es.length off len u1 →
      K (.int .i64 (min es2.length len : Nat)) (h.set id (.row sz (es.take off ++ es2.take (min es2.length len) ++ es.drop (off + min es2.length len)) ver)) → HeapOK P w h γ (Builtin.copy_ ts ty #[u1, u2]) K := by
    intro sz es id ver off len ho hsz hr hk
    subst hsz
    have hn : (es2.take (min es2.length len)).length = min es2.length len := by simp
    have hp3 : Pt (DRel w (Ro w h γ)) (es2.take (min es2.length len)).flatten (us.take (min es2.length len * te.size)) := by
      rw [hU2.flatten_take]; exact hp2.take _
    obtain ⟨a, cap, w', rfl, hst, st⟩ := lay_ok H HH ho hr (es2 := es2.take (min es2.length len)) (by omega) (hU2.take _) hp3 (fun x hx => hs.2.2.1 x (List.mem_of_mem_take hx))
    have hf := hs.2.2.2 (min es2.length len) (Nat.min_le_left _ _) w (.inl rfl)
    rw [hn] at st
    refine ⟨.int .i64 (min es2.length len : Nat), w', ?_, _, _, _, hk, DRel.int, st⟩
    simp only [Builtin.copy_, h0, List.getElem?_toArray, List.getElem?_cons_zero, List.getElem?_cons_succ, Sem.run_bind, run_underlying ht w, Result.andThen_ok, hs.1, H.size hte w]
    rw [show Nat.min es2.length len = min es2.length len from rfl, hf]
    simp only [Result.andThen_ok]
    cases a with
    | none =>
      obtain ⟨rfl, _, _⟩ := hst
      simp [goInt]
    | some b =>
      simp only at hst
      simp only [Sem.run_bind, hst, Result.andThen_ok, Sem.run_pure]
      rfl
  have goI : ∀ {id ver off len : Nat} {K' : Prop}, (match h.getD id .dead with
        | .row sz es v => br (Nat.beq v ver && Nat.beq sz te.size)
            (let n := min es2.length len
             K (.int .i64 n) (h.set id (.row sz (es.take off ++ es2.take n ++ es.drop (off + n)) v))) False
        | _ => False) → (∀ sz es v, h.getD id .dead = .row sz es v → Nat.beq v ver = true → h[id]? = some (.row sz es ver) ∧ RowV w γ id sz es.length off len u1) → HeapOK P w h γ (Builtin.copy_ ts ty #[u1, u2]) K := by
    intro id ver off len _ hk hrow
    split at hk
    · rename_i sz es v ho
      obtain ⟨hb, hk2⟩ := br_t hk
      simp only [Bool.and_eq_true] at hb
      obtain ⟨ho', hr⟩ := hrow _ _ _ ho hb.1
      have hve := Nat.eq_of_beq_eq_true hb.1
      subst hve
      exact go ho' (Nat.eq_of_beq_eq_true hb.2) hr hk2
    · exact hk.elim
  simp only at hk1
  split at hk1
  · rename_i id ver
    split at hk1
    · rename_i sz0 es0 v0 ho0
      refine goI (K' := True) (id := id) (ver := ver) (off := 0) (len := es0.length) (by rw [ho0]; exact hk1) fun sz es v ho hb => ?_
      rw [ho0] at ho
      simp at ho
      obtain ⟨rfl, rfl, rfl⟩ := ho
      exact row_of hx ho0 hb
    · exact hk1.elim
  · exact goI (K' := True) hk1 fun sz es v ho hb => rows_of hx ho hb
  · exact hk1.elim
theorem clear_ok (H : EOK P E) (HH : HRel w h γ) {t ty : TypeId} {ts : Array TypeId} (h0 : ts[0]? = some t) {x : AV} {u1 : Value} (hx : VRel w h γ x u1) {K : AV → List Obj → Prop}
    (hk : clearP E t x h K) : HeapOK P w h γ (Builtin.clear_ ts ty #[u1]) K := by
  unfold clearP at hk
  split at hk
  case h_2 => exact hk.elim
  rename_i e hkd
  have ht : P.underlying t = some (.slice e) := H.kd hkd
  split at hk
  · exact hk.elim
  rename_i te hte
  split at hk
  case h_2 => exact hk.elim
  rename_i id ver off len
  split at hk
  case h_2 => exact hk.elim
  rename_i sz es v ho
  obtain ⟨hb, hk1⟩ := br_t hk
  simp only [Bool.and_eq_true] at hb
  obtain ⟨ho', hr⟩ := rows_of hx ho hb.1.1
  have hsz := Nat.eq_of_beq_eq_true hb.1.2
  have hve := Nat.eq_of_beq_eq_true hb.1.1
  have hz := Nat.eq_of_beq_eq_true hb.2
  subst hsz; subst hve
  obtain ⟨z, hz1, hz2⟩ := H.zero hte hz
  have hzp := mv_cells (hz2 w (Ro w h γ))
  have hzs : z.cells.size = te.size := by have := hzp.1; simp at this; omega
  obtain ⟨a, cap, w', rfl, hst, st⟩ := lay_ok H HH ho' hr (es2 := List.replicate len te.zero) (us := (List.replicate len z.cells.toList).flatten) (by simp) (uni_replicate hz) (pt_replicate hzp len) (data_one (pt_replicate hzp len))
  rw [List.length_replicate] at st
  refine ⟨.tuple #[], w', ?_, _, _, _, hk1, trivial, st⟩
  cases a with
  | none =>
    obtain ⟨rfl, _, rfl⟩ := hst
    simp [Builtin.clear_, h0, run_underlying ht]
  | some b =>
    simp only at hst
    cases len with
    | zero =>
      have : w' = w := by simpa [storeCells] using hst.symm
      subst this
      simp [Builtin.clear_, h0, run_underlying ht]
    | succ n =>
      have hzc : (Builtin.zeroCells z.cells (n + 1)).toList = (List.replicate (n + 1) z.cells.toList).flatten := zero_cells (n := n + 1) rfl
      simp [Builtin.clear_, h0, run_underlying ht, hz1, hzc, hst]
theorem makeSlice_ok (H : EOK P E) (HH : HRel w h γ) {t : TypeId} {l c : AV} {ul uc : Value} (hl : VRel w h γ l ul) (hc : VRel w h γ c uc) {K : AV → List Obj → Prop}
    (hk : makeSliceP E t l c h K) : HeapOK P w h γ (Instr.makeSlice t ul uc) K := by
  unfold makeSliceP at hk
  split at hk
  case h_2 => exact hk.elim
  rename_i e hkd
  have ht : P.underlying t = some (.slice e) := H.kd hkd
  split at hk
  · exact hk.elim
  rename_i te hte
  obtain ⟨n, rfl, rfl, hk1⟩ := asK_inv hk hl
  obtain ⟨m, rfl, rfl, hk2⟩ := asK_inv hk1 hc
  obtain ⟨hz, hk3⟩ := br_t hk2
  obtain ⟨⟨h0, hnm, hb, hm⟩, hk3⟩ := gd_d hk3
  have hz := Nat.eq_of_beq_eq_true hz
  obtain ⟨i, hi, his, hib, hzz⟩ := (H e te hte).info
  obtain ⟨z, hzi, hz2⟩ := hzz hz
  have hzp := mv_cells (hz2 w (Ro w h γ))
  have hzs : z.cells.size = te.size := by have := hzp.1; simp at this; omega
  have hrun := run_make (P := P) w t e i z ht hi hzi .i64 .i64 n m h0 hnm (by rw [hib, Int.mul_comm]; omega) (by omega)
  have hcells : (madeCells z.cells (m.toNat * i.size)).toList = (List.replicate m.toNat z.cells.toList).flatten := by
    rw [his]; exact zero_cells hzs
  have hsize : (madeCells z.cells (m.toNat * i.size)).size = m.toNat * te.size := by rw [size_madeCells, his]
  have hnm' : n.toNat ≤ m.toNat := by omega
  have hmul := Nat.mul_le_mul_right te.size hnm'
  obtain ⟨hv, st⟩ := new_row HH (sz := te.size) (es := List.replicate n.toNat te.zero) (cs := madeCells z.cells (m.toNat * i.size)) e (uni_replicate hz) (by simp [hsize]; exact hmul)
    (by
      have e1 : (List.replicate m.toNat z.cells.toList).flatten.take (n.toNat * te.size) = (List.replicate n.toNat z.cells.toList).flatten := by
        rw [show m.toNat = n.toNat + (m.toNat - n.toNat) by omega, ← List.replicate_append_replicate, List.flatten_append, List.take_append_of_le_length (by simp [hzs]), List.take_of_length_le (by simp [hzs])]
      rw [hcells, List.length_replicate, e1]
      exact pt_replicate hzp _) (cap := m.toNat) (by simpa using hnm') (by rw [hsize]; exact Nat.le_refl _)
  refine ⟨_, _, hrun, _, _, _, hk3, ?_, st⟩
  rw [List.length_replicate] at hv
  exact hv

/-! ### A block turns -/
def setB (w : World) (r : Nat) (o : Go.Obj) : World := { w with heap := w.heap.setIfInBounds r o }
theorem setB_at {w : World} {r : Nat} {o o' : Go.Obj} (hb : w.heap[r]? = some o') : (setB w r o).heap[r]? = some o := by
  have := (Array.getElem?_eq_some_iff.1 hb).1
  simp [setB, this]
theorem setB_other {w : World} {r b : Nat} {o : Go.Obj} (hb : b ≠ r) : (setB w r o).heap[b]? = w.heap[b]? := by
  simp only [setB, Array.getElem?_setIfInBounds]
  rw [if_neg fun e => hb e.symm]
theorem turn_block (HH : HRel w h γ) {id : Nat} {o o' : Obj} (hid : h[id]? = some o) (hd : o.isDead = false) {b p : Nat} (hg : γ id = some (b, p)) {B B' : Go.Obj} (hb : w.heap[b]? = some B)
    (hoe : OE w γ (setB w b B') γ id o o') (ho : Fr w h γ (setB w b B') (h.set id o') γ → Evo w h γ (setB w b B') (h.set id o') γ → ORel (setB w b B') (h.set id o') γ id o') :
    Step w h γ (setB w b B') (h.set id o') γ := by
  have := Step.turn HH hid o' (w' := setB w b B') (γ id) rfl rfl rfl (by simp [setB]) (fun b' _ hb' => setB_other (fun e => by
    subst e
    have := hb' p hg
    rw [hd] at this; cases this)) (fun _ b' p' hg' => .inr ⟨⟨p', hg'⟩, hd⟩) (by rw [upd_self]; exact hoe) (by rw [upd_self]; exact ho)
  rwa [upd_self] at this
theorem makeMap_ok (HH : HRel w h γ) {t : TypeId} {ag : Bool} {kk : Option IntKind} {K : AV → List Obj → Prop} (hk : K (.lf (.map h.length)) (h ++ [.map ag kk []])) : HeapOK P w h γ (Instr.makeMap t none) K := by
  have st := Step.new HH (.map ag kk []) (.map #[] 0) fun γ' hg f e => ⟨_, _, _, by rw [hg]; exact upd_same, heap_alloc_at _ _, ⟨fun p hp => by simp at hp, Pt.nil⟩⟩
  refine ⟨.map (some w.heap.size), _, rfl, _, _, _, hk, ⟨rfl, by simp, fun ag' kk' es ho => ?_⟩, st⟩
  exact ⟨_, _, upd_same, rfl⟩
theorem same_bits {kk : Option IntKind} {k : D} {u : Value} (hs : SameK kk k) (hu : KeyV k u) : Instr.sameBits 10000 u u = true := by
  obtain ⟨n, hn⟩ : ∃ n, (10000 : Nat) = n + 1 := ⟨9999, rfl⟩
  rw [hn]
  have := key_val hs hu
  cases kk with
  | none => obtain ⟨s, rfl⟩ := this; simp [Instr.sameBits, beq_toListBytes]
  | some q => obtain ⟨s, rfl⟩ := this; simp [Instr.sameBits]
theorem leaves_mv {ag : Bool} {v : TV} {ys : List D} {u : Value} {N : Nat → Prop} (ha : (ag == (match v with | .agg _ => true | .lf _ => false)) = true) (hv : TRel w h γ v u) (hp : Pt (DRel w N) ys u.cells.toList) : MV w N ag ys u := by
  cases v with
  | agg l =>
    have : ag = true := by simpa using ha
    subst this
    obtain ⟨cs, rfl, _⟩ := hv
    exact ⟨cs, rfl, hp⟩
  | lf x =>
    have : ag = false := by simpa using ha
    subst this
    have h1 := LRel.one (x := x) hv
    have hc : u.cells = #[u] := by cases u <;> first | rfl | cases h1
    rw [hc] at hp
    cases ys with
    | nil => have := hp.1; simp at this
    | cons y l =>
      obtain ⟨_, _, he, hr, ht⟩ := hp.inv
      simp at he
      obtain ⟨rfl, rfl⟩ := he
      have := ht.1
      simp at this
      subst this
      exact ⟨y, rfl, hr⟩
theorem mapSet_ok (H : EOK P E) (HH : HRel w h γ) {t : TypeId} {m k v : AV} {um uk uv : Value} (hm : VRel w h γ m um) (hkv : VRel w h γ k uk) (hv : VRel w h γ v uv) {K : List Obj → Prop} (hk : mapSetP E t m k v h K) :
    ∃ w' h' γ', (Instr.mapUpdate t um uk uv).run P w = .ok () w' ∧ K h' ∧ Step w h γ w' h' γ' := by
  unfold mapSetP at hk
  split at hk
  case h_2 => exact hk.elim
  rename_i kt et id hkd
  have ht : P.underlying t = some (.map kt et) := H.kd hkd
  split at hk
  · exact hk.elim
  rename_i kk hkk
  obtain ⟨kd, hk1, hku, hsk⟩ := onKey_inv hkv hk
  obtain ⟨x, rfl, hk2⟩ := onT_inv hk1
  clear hk hk1
  split at hk2
  case h_2 => exact hk2.elim
  rename_i ag kk' es ho
  obtain ⟨hb, hk3⟩ := br_t hk2
  simp only [Bool.and_eq_true] at hb
  obtain ⟨⟨ha, hkq⟩, hci⟩ := hb
  have := kkEq_inv hkq
  subst this
  have ho' := obj_of hm.2.1 ho
  obtain ⟨b, p, hg, rfl⟩ := hm.2.2 _ _ _ ho'
  obtain ⟨ys, h', hk4, hys, st, hl, hold⟩ := toDs_ok HH (leaves_rel hv) hk3
  obtain ⟨ys, hk4, hys⟩ : ∃ ys, K (h'.set id (.map ag kk' (mset kd ys es))) ∧ Pt (DRel w (Ro w h' γ)) ys uv.cells.toList := ⟨_, hk4, cast_ds hys⟩
  have ho2 := (hold id (fun hm => by rw [ids_leaves, List.isEmpty_iff.1 hci] at hm; cases hm)).trans ho'
  obtain ⟨b2, ents, clock, hg2, hb2, hks, hp⟩ := st.rel.obj _ _ ho2
  rw [hg] at hg2
  simp at hg2
  obtain ⟨rfl, rfl⟩ := hg2
  have hmv : MV w (Ro w h' γ) ag ys uv := leaves_mv ha hv hys
  have hck := checkKey_ok (w := w) (b := false) (keyKind_inv H hkk) hsk hku
  have hd := keyKind_inv H hkk
  rcases findNow_ok hsk hku (i := 0) hks hp with ⟨g1, g2, g3⟩ | ⟨j, q, m, g1, g2, g3, g4, g5, g6, g7⟩
  · refine ⟨setB w b (.map (ents.push { key := uk, val := uv, born := clock }) (clock + 1)), _, γ, ?_, hk4, st.trans (turn_block st.rel ho2 rfl hg hb2 (.inr ⟨⟨rfl, rfl⟩, rfl⟩) fun f ev => ⟨b, _, _, hg, setB_at hb2, ?_, ?_⟩)⟩
    · simp only [Instr.mapUpdate, Sem.run_bind, run_underlying ht w, Result.andThen_ok, getObj, Sem.run, hb2, Sem.run_pure, hck, Instr.findKey, run_underlying hd w, g2, setObj, setB]
    · intro p hp
      rw [g3] at hp
      rcases List.mem_append.1 hp with hp | hp
      · exact hks p hp
      · simp at hp; subst hp; exact hsk
    · have hall := (hp.mono fun x y _ hxy => (⟨hxy.1, MV.fr' f.ro hxy.2⟩ : _ ∧ _)).append (Pt.cons (x := (kd, ys)) (y := ({ key := uk, val := uv, born := clock } : MapEntry)) ⟨hku, MV.fr' f.ro hmv⟩ Pt.nil)
      rw [← g3] at hall
      rw [Array.toList_push]
      exact hall
  · refine ⟨setB w b (.map (ents.modify j fun e => { e with key := uk, val := uv }) clock), _, γ, ?_, hk4, st.trans (turn_block st.rel ho2 rfl hg hb2 (.inr ⟨⟨rfl, rfl⟩, rfl⟩) fun f ev => ⟨b, _, _, hg, setB_at hb2, ?_, ?_⟩)⟩
    · have e0 : ents[j]? = some m := by rw [← Array.getElem?_toList]; exact g2
      have hkt : (Instr.keyThatStays uk uk).run P w = .ok uk w := by simp [Instr.keyThatStays, same_bits hsk hku]
      simp only [Instr.mapUpdate, Sem.run_bind, run_underlying ht w, Result.andThen_ok, getObj, Sem.run, hb2, Sem.run_pure, hck, Instr.findKey, run_underlying hd w, g5, Nat.zero_add, e0, Option.map_some, Option.getD_some, g6, hkt, setObj, setB]
    · intro p hp
      rw [g7] at hp
      rcases List.mem_or_eq_of_mem_set hp with hp | rfl
      · exact hks p hp
      · exact hsk
    · have hF : ∀ (p : D × List D) (m : MapEntry), (KeyV p.1 m.key ∧ MV w (Ro w h' γ) ag p.2 m.val) → KeyV p.1 m.key ∧ MV (setB w b (.map (ents.modify j fun e => { e with key := uk, val := uv }) clock)) (Ro (setB w b (.map (ents.modify j fun e => { e with key := uk, val := uv }) clock)) (h'.set id (.map ag kk' (mset kd ys es))) γ) ag p.2 m.val :=
        fun p m hpm => ⟨hpm.1, MV.fr' f.ro hpm.2⟩
      have hmv' := MV.fr' f.ro hmv
      refine ⟨by rw [g7]; simp [hp.1], fun i x y hx hy => ?_⟩
      rw [g7, List.getElem?_set] at hx
      rw [Array.getElem?_toList, Array.getElem?_modify] at hy
      by_cases hij : j = i
      · subst hij
        have hj := (List.getElem?_eq_some_iff.1 g1).1
        rw [if_pos rfl, if_pos hj] at hx
        rw [if_pos rfl, ← Array.getElem?_toList, g2] at hy
        simp at hx hy
        subst hx; subst hy
        exact ⟨hku, hmv'⟩
      · rw [if_neg hij] at hx
        rw [if_neg hij, ← Array.getElem?_toList] at hy
        exact hF _ _ (hp.2 i x y hx hy)
theorem rangeStr_ok (HH : HRel w h γ) {t : TypeId} (ht : P.underlying t = some .string) {s : List UInt8} {K : AV → List Obj → Prop} (hk : K (.lf (.ptr h.length 0)) (h ++ [.siter s 0])) : HeapOK P w h γ (Instr.range t (.string ⟨s.toArray⟩)) K := by
  have st := Step.new HH (.siter s 0) (.stringIter ⟨s.toArray⟩ 0) fun γ' hg f e => ⟨_, by rw [hg]; exact upd_same, heap_alloc_at _ _⟩
  refine ⟨.pointer (some ⟨w.heap.size, 0, none⟩), w.alloc (.stringIter ⟨s.toArray⟩ 0), ?_, _, _, _, hk, new_ptr _ upd_same rfl, st⟩
  rw [run_range_string w t _ ht]
  rfl
theorem nextStr_ok (HH : HRel w h γ) {ty : TypeId} {id : Nat} {s : List UInt8} {pos : Nat} (ho : h.getD id .dead = .siter s pos) {u : Value} (hv : VRel w h γ (.lf (.ptr id 0)) u) {K : AV → List Obj → Prop}
    (hk : br (Nat.blt pos s.length)
          (match Utf8.decode ⟨s.toArray⟩ pos with
           | (c, n) => K (.tup [.lf (.d (.bool true)), .lf (.d (.int .i64 pos)), .lf (.d (.int .i32 c))]) (h.set id (.siter s (pos + n))))
          (K (.tup [.lf (.d (.bool false))]) h)) : HeapOK P w h γ (Instr.next u true ty) K := by
  have ho' := obj_of hv.2.1 ho
  obtain ⟨b, p, hg, rfl⟩ := hv.2.2 _ ho' rfl
  obtain ⟨b2, hg2, hb⟩ := HH.obj _ _ ho'
  rw [hg] at hg2
  simp at hg2
  obtain ⟨rfl, rfl⟩ := hg2
  rcases br_inv hk with ⟨hl, hk2⟩ | ⟨hl, hk2⟩
  · have hl : pos < s.length := by simpa [Nat.blt_eq] using hl
    have hrun := Go.Lib.run_next_any_at (P := P) w b ⟨s.toArray⟩ pos ty hb (by simpa [ByteArray.size] using hl)
    have st := turn_block HH ho' rfl hg hb (B' := .stringIter ⟨s.toArray⟩ (pos + (Utf8.decode ⟨s.toArray⟩ pos).2)) (o' := .siter s (pos + (Utf8.decode ⟨s.toArray⟩ pos).2)) (.inr rfl) fun f e => ⟨b, hg, setB_at hb⟩
    exact ⟨_, _, hrun, _, _, _, hk2, ⟨_, rfl, Pt.cons DRel.bool (Pt.cons DRel.int (Pt.cons DRel.int Pt.nil))⟩, st⟩
  · have hl : ¬ pos < s.length := by
      have : Nat.blt pos s.length ≠ true := by rw [hl]; simp
      simpa [Nat.blt_eq] using this
    have hrun := Go.Lib.run_next_end_at (P := P) w b ⟨s.toArray⟩ pos ty hb (by simpa [ByteArray.size] using hl)
    exact ⟨_, _, hrun, _, _, _, hk2, ⟨_, rfl, Pt.cons DRel.bool Pt.nil⟩, Step.refl HH⟩
end
end Go.Proofs.YtahlcbmmjfdcaaaGreatDoor.PX
