/- PX, part 4: reading: addresses, loads, slices, lengths, maps that are asked. -/
import Derived.Test.YtahlcbmmjfdcaaaGreatDoorPXOps1
set_option linter.all false
namespace Go.Proofs.YtahlcbmmjfdcaaaGreatDoor.PX
set_option linter.unusedVariables false
set_option linter.unusedSimpArgs false

theorem EOK.size {P : Program} {E : Env} (H : EOK P E) {t : TypeId} {ti : TI} (h : E.T t = some ti) (w : World) : (sizeOf t).run P w = .ok ti.size w := by
  obtain ⟨i, h1, h2, _⟩ := (H t ti h).info
  simp only [sizeOf, typeInfo, Sem.run_bind, run_program, Result.andThen_ok, h1, Sem.run_pure, h2]
theorem EOK.cellsOf {P : Program} {E : Env} (H : EOK P E) {t : TypeId} {ti : TI} (h : E.T t = some ti) : P.cellsOf t = ti.size := by
  obtain ⟨i, h1, h2, _⟩ := (H t ti h).info
  simp [Program.cellsOf, h1, h2]
theorem EOK.agg {P : Program} {E : Env} (H : EOK P E) {t : TypeId} {ti : TI} (h : E.T t = some ti) (w : World) : (isAgg t).run P w = .ok ti.agg w := by
  have hk := (H t ti h).kind
  by_cases ho : ti.k = .other
  · obtain ⟨h1, _, h2⟩ := (H t ti h).other ho
    rw [h2, h1]
  · rw [(H t ti h).agg ho]
    have un : ∀ {d}, P.underlying t = some d → (isAgg t).run P w = .ok (match d with | .struct _ | .array _ _ => true | _ => false) w := by
      intro d hd
      simp only [isAgg, Sem.run_bind, run_underlying hd w, Result.andThen_ok]
      cases d <;> rfl
    cases hkk : ti.k <;> rw [hkk] at hk
    case int => exact un hk
    case bool => exact un hk
    case str => exact un hk
    case slice => exact un hk
    case arr => exact un hk
    case struct => obtain ⟨f, hf, _⟩ := hk; exact un hf
    case ptr => exact un hk
    case map => exact un hk
    case func => obtain ⟨a, b, c, hf⟩ := hk; exact un hf
    case iface => obtain ⟨m, hf⟩ := hk; exact un hf
    case other => exact absurd hkk ho
theorem mapM_get {α β : Type} {f : α → Option β} : ∀ {l : List α} {m : List β}, l.mapM f = some m → ∀ {i : Nat} {y : β}, m[i]? = some y → ∃ x, l[i]? = some x ∧ f x = some y
  | [], m, hm, i, y, hy => by simp at hm; subst hm; simp at hy
  | x :: l, m, hm, i, y, hy => by
    simp only [List.mapM_cons, Option.bind_eq_bind, Option.pure_def] at hm
    cases hx : f x with
    | none => simp [hx] at hm
    | some z =>
      cases hl : l.mapM f with
      | none => simp [hx, hl] at hm
      | some m' =>
        simp [hx, hl] at hm
        subst hm
        cases i with
        | zero => simp at hy; subst hy; exact ⟨x, rfl, hx⟩
        | succ i => simp at hy; simpa using mapM_get hl hy
theorem EOK.field {P : Program} {E : Env} (H : EOK P E) {t : TypeId} {fs : List (Nat × Nat)} (h : E.kind t = some (.struct fs)) {f o n : Nat} (hf : fs[f]? = some (o, n)) :
    ∃ fields g, P.underlying t = some (.struct fields) ∧ fields[f]? = some g ∧ g.offset = o ∧ P.cellsOf g.type = n := by
  obtain ⟨fields, h1, h2⟩ := H.kd h
  obtain ⟨g, hg, he⟩ := mapM_get h2 hf
  obtain ⟨i, hi, he⟩ := Option.map_eq_some_iff.1 he
  simp at he
  exact ⟨fields, g, h1, by simpa using hg, he.1, by simp [Program.cellsOf, hi, he.2]⟩
theorem kind_of {E : Env} {t : TypeId} {ti : TI} (h : E.T t = some ti) : E.kind t = some ti.k := by simp [Env.kind, h]
theorem kind_inv {E : Env} {t : TypeId} {k : TK} (h : E.kind t = some k) : ∃ ti, E.T t = some ti ∧ ti.k = k := by
  unfold Env.kind at h
  split at h
  · rename_i ti hti; exact ⟨ti, hti, by simpa using h⟩
  · simp at h
theorem addr_add (b o n : Nat) : (⟨b, o, none⟩ : Addr).add n = ⟨b, o + n, none⟩ := by unfold Addr.add; split <;> simp_all

section
variable {P : Program} {E : Env} {w : World} {h : List Obj} {γ : Gam}

/-! ### Addresses -/
theorem cur_inv {id ver : Nat} (hc : cur h id ver = true) (hlt : id < h.length) : ∃ sz es, h[id]? = some (.row sz es ver) := by
  unfold cur at hc
  split at hc
  · rename_i sz es v ho
    exact ⟨sz, es, by rw [obj_of hlt ho, Nat.eq_of_beq_eq_true hc]⟩
  · cases hc
theorem shift_ptr {v : AV} {u : Value} {n : Nat} {K : AV → Prop} (hv : VRel w h γ v u) (hk : shiftPtr h v n K) :
    ∃ b o v', u = .pointer (some ⟨b, o, none⟩) ∧ K v' ∧ VRel w h γ v' (.pointer (some ⟨b, o + n, none⟩)) := by
  unfold shiftPtr at hk
  split at hk
  · rename_i id off
    obtain ⟨hf, hk⟩ := br_t hk
    obtain ⟨b, p, hg, rfl⟩ := hv.2.2 _ (obj_of hv.2.1 rfl) hf
    refine ⟨b, p + off, _, rfl, hk, rfl, hv.2.1, fun o ho hfx => ⟨b, p, hg, by rw [Nat.add_assoc]⟩⟩
  · rename_i id ver i off
    obtain ⟨hf, hk⟩ := br_t hk
    obtain ⟨sz, es, ho⟩ := cur_inv hf hv.2.1
    obtain ⟨b, p, hg, rfl⟩ := (hv.2.2 sz es ver ho).2 rfl
    refine ⟨b, p + (i * sz + off), _, rfl, hk, rfl, hv.2.1, fun sz' es' k' ho' => ?_⟩
    rw [ho] at ho'
    simp at ho'
    obtain ⟨rfl, rfl, rfl⟩ := ho'
    exact ⟨Nat.le_refl _, fun _ => ⟨b, p, hg, by rw [Nat.add_assoc, Nat.add_assoc]⟩⟩
  · rename_i l off
    obtain ⟨b, o, us, rfl, h1, h2⟩ := hv
    exact ⟨b, o + off, _, rfl, hk, b, o, us, by rw [Nat.add_assoc], h1, h2⟩
  · exact hk.elim
theorem fieldAddr_ok (H : EOK P E) {t : TypeId} {f : Nat} {v : AV} {u : Value} {K : AV → Prop} (hv : VRel w h γ v u) (hk : fieldAddrP E t v f h K) : PureOK P w h γ (Instr.fieldAt t u f) K := by
  unfold fieldAddrP at hk
  split at hk
  · rename_i fs hkd
    split at hk
    · rename_i o n hf
      rcases br_inv hk with ⟨_, hk⟩ | ⟨hn, hk⟩
      · exact hk.elim
      obtain ⟨fields, g, hu, hg, rfl, hs⟩ := H.field hkd hf
      have hn' : P.cellsOf g.type ≠ 0 := fun e => by rw [← hs, e] at hn; cases hn
      obtain ⟨b, o, v', rfl, hk, hr⟩ := shift_ptr hv hk
      refine ⟨_, _, ?_, hk, hr⟩
      cases hx : P.info? g.type with
      | none => exact absurd (by simp [Program.cellsOf, hx]) hn'
      | some i =>
        have hi' : i.size ≠ 0 := fun e => hn' (by simp [Program.cellsOf, hx, e])
        simp only [Instr.fieldAt, Instr.sureAddr, fieldPlace, sizeOf, typeInfo, Sem.run_bind, run_underlying hu w, Result.andThen_ok, hg, run_program, hx, Sem.run_pure, if_neg hi', Sem.run_ite, addr_add]
    · exact hk.elim
  · exact hk.elim
theorem okSz_inv {sz n : Nat} {es : List (List D)} {K : Prop} (hk : okSz sz n es K) : (sz = n ∨ es = []) ∧ K := by
  unfold okSz at hk
  rcases br_inv hk with ⟨h1, h2⟩ | ⟨_, h1⟩
  · exact ⟨.inl (Nat.eq_of_beq_eq_true h1), h2⟩
  · exact ⟨.inr (List.isEmpty_iff.1 (gd_t h1).1), (gd_t h1).2⟩
theorem elems_at {sz : Nat} {es : List (List D)} {f : SF} {u : Value} (hv : VRel w h γ (.d (.sl sz es f)) u) :
    ∃ a cap, u = .slice a es.length cap ∧ ∀ i e, es[i]? = some e → ∃ b o, a = some ⟨b, o, none⟩ ∧ VRel w h γ (.lf (.rop e 0)) (.pointer (some ⟨b, o + i * sz, none⟩)) := by
  cases hv with
  | sl us h1 h2 h3 h4 h5 h6 h7 =>
    rename_i a cap
    refine ⟨a, cap, rfl, fun i e he => ?_⟩
    have hne : es ≠ [] := fun h0 => by simp [h0] at he
    obtain ⟨b, o, rfl, hb, hc⟩ := h5 hne
    have hl : e.length = sz := h4 e (List.mem_of_getElem? he)
    have hi : i < es.length := (List.getElem?_eq_some_iff.1 he).1
    have hin : i * sz + sz ≤ us.length := by
      rw [← h6, h4.len]
      have := Nat.mul_le_mul_right sz (show i + 1 ≤ es.length by omega)
      rw [Nat.succ_mul] at this; exact this
    refine ⟨b, o, rfl, b, o + i * sz, (us.drop (i * sz)).take sz, by simp, fun _ => ⟨hb, fun k u hk => ?_⟩, by simp [hl]; omega, fun k x y hx hy => ?_⟩
    · rw [List.getElem?_take] at hk
      split at hk
      · rw [List.getElem?_drop] at hk
        have := hc _ u hk
        rwa [Nat.add_assoc]
      · simp at hk
    · have hk : k < sz := hl ▸ (List.getElem?_eq_some_iff.1 hx).1
      rw [List.getElem?_take, if_pos hk, List.getElem?_drop] at hy
      exact h7 (i * sz + k) x y (by rw [h4.get he k hk]; exact hx) hy
theorem run_index_slice (H : EOK P E) {t e : TypeId} {te : TI} (hu : P.underlying t = some (.slice e)) (he : E.T e = some te) {b o len cap : Nat} {k : IntKind} {i : Int} (h0 : 0 ≤ i) (h1 : i < len) :
    (Instr.indexAt t (.slice (some ⟨b, o, none⟩) len cap) (.int k i)).run P w = .ok (.pointer (some ⟨b, o + i.toNat * te.size, none⟩)) w := by
  simp only [Instr.indexAt, asIntOf, Sem.run_bind, Sem.run_pure, Result.andThen_ok, run_underlying hu w]
  rw [if_pos ⟨h0, h1⟩]
  simp only [Sem.run_bind, H.size he w, Result.andThen_ok, Sem.run_pure, addr_add]
theorem indexAddr_ok (H : EOK P E) {t : TypeId} {v v' : AV} {u u' : Value} {K : AV → Prop} (hv : VRel w h γ v u) (hv' : VRel w h γ v' u') (hk : indexAddrP E t v v' h K) : PureOK P w h γ (Instr.indexAt t u u') K := by
  unfold indexAddrP at hk
  split at hk
  · rename_i e hkd
    have hu := H.kd hkd
    split at hk
    · exact hk.elim
    rename_i te hte
    obtain ⟨k, i, _, rfl, hk⟩ := asI_inv hk hv'
    split at hk
    · rename_i x
      unfold dSl at hk
      split at hk
      · rename_i sz es f
        obtain ⟨hsz, hq⟩ := okSz_inv hk
        obtain ⟨h0, hq⟩ := gd_d hq
        obtain ⟨e', he, hq⟩ := at_inv hq
        obtain ⟨a, cap, rfl, hel⟩ := elems_at hv
        obtain ⟨b, o, rfl, hr⟩ := hel _ _ he
        have hlt : i.toNat < es.length := (List.getElem?_eq_some_iff.1 he).1
        have hsz' : sz = te.size := hsz.resolve_right (fun h0 => by simp [h0] at he)
        subst hsz'
        exact ⟨_, _, run_index_slice H hu hte h0 (by omega), hq, hr⟩
      · exact hk.elim
    · rename_i id ver
      split at hk
      · rename_i sz es v ho
        obtain ⟨hb, hq⟩ := br_t hk
        obtain ⟨⟨h0, h1⟩, hq⟩ := gd_d hq
        simp only [Bool.and_eq_true] at hb
        obtain ⟨ho', hr⟩ := row_of hv ho hb.1
        have hsz := Nat.eq_of_beq_eq_true hb.2
        subst hsz
        unfold RowV at hr
        split at hr
        · obtain ⟨_, h2, _⟩ := hr; omega
        · rename_i b p hg
          obtain ⟨_, a, cap, rfl, h3, h4, h5, h6⟩ := hr
          rw [h5 (by omega)]
          refine ⟨_, _, run_index_slice H hu hte h0 (by omega), hq, rfl, hv.2.1, fun sz' es' k' ho2 => ?_⟩
          rw [ho'] at ho2
          simp at ho2
          obtain ⟨rfl, rfl, rfl⟩ := ho2
          exact ⟨Nat.le_refl _, fun _ => ⟨b, p, hg, by simp⟩⟩
      · exact hk.elim
    · rename_i id ver off len
      split at hk
      · rename_i sz es v ho
        obtain ⟨hb, hq⟩ := br_t hk
        obtain ⟨⟨h0, h1⟩, hq⟩ := gd_d hq
        simp only [Bool.and_eq_true] at hb
        obtain ⟨ho', hr⟩ := rows_of hv ho hb.1
        have hsz := Nat.eq_of_beq_eq_true hb.2
        subst hsz
        unfold RowV at hr
        split at hr
        · obtain ⟨_, h2, _⟩ := hr; omega
        · rename_i b p hg
          obtain ⟨_, a, cap, rfl, h3, h4, h5, h6⟩ := hr
          rw [h5 (by omega)]
          refine ⟨_, _, run_index_slice H hu hte h0 (by omega), hq, rfl, hv.2.1, fun sz' es' k' ho2 => ?_⟩
          rw [ho'] at ho2
          simp at ho2
          obtain ⟨rfl, rfl, rfl⟩ := ho2
          exact ⟨Nat.le_refl _, fun _ => ⟨b, p, hg, by rw [Nat.add_mul]; simp [Nat.add_assoc]⟩⟩
      · exact hk.elim
    · exact hk.elim
  · rename_i n e hkd
    have hu := H.kd hkd
    split at hk
    · exact hk.elim
    rename_i te hte
    obtain ⟨k, i, _, rfl, hk⟩ := asI_inv hk hv'
    obtain ⟨⟨h0, h1⟩, hk⟩ := gd_d hk
    obtain ⟨b, o, v', rfl, hk, hr⟩ := shift_ptr hv hk
    refine ⟨_, _, ?_, hk, hr⟩
    simp only [Instr.indexAt, asIntOf, Instr.sureAddr, Sem.run_bind, Sem.run_pure, Result.andThen_ok, run_underlying hu w]
    rw [if_pos ⟨h0, h1⟩]
    simp only [Sem.run_bind, H.size hte w, Result.andThen_ok, Sem.run_pure, addr_add]
  · exact hk.elim

/-! ### Loads -/
theorem run_load_agg (H : EOK P E) {t : TypeId} {ti : TI} (hti : E.T t = some ti) (ha : ti.agg = true) {b o : Nat} (us : List Value) (hl : us.length = ti.size)
    (hc : ∀ (j : Nat) (u : Value), us[j]? = some u → w.cell? ⟨b, o + j, none⟩ = some u) : (Instr.loadAt t (.pointer (some ⟨b, o, none⟩))).run P w = .ok (.agg us.toArray) w := by
  have e := run_loadCells_list (P := P) (w := w) ⟨b, o, none⟩ us (fun j v hj => by rw [addr_add]; exact hc j v hj)
  simp only [Instr.loadAt, Instr.sureAddr, loadVar, Sem.run_bind, Sem.run_pure, Result.andThen_ok, H.agg hti w, H.size hti w, Sem.run_ite, ha, if_true, ← hl, e]
theorem run_load_one (H : EOK P E) {t : TypeId} {ti : TI} (hti : E.T t = some ti) (ha : ti.agg = false) {b o : Nat} {u : Value} (hc : w.cell? ⟨b, o, none⟩ = some u) :
    (Instr.loadAt t (.pointer (some ⟨b, o, none⟩))).run P w = .ok u w := by
  simp only [Instr.loadAt, Instr.sureAddr, loadVar, Sem.run_bind, Sem.run_pure, Result.andThen_ok, H.agg hti w, Sem.run_ite, ha, Bool.false_eq_true, if_false, run_load, hc]
theorem cell_of {b : Nat} {cs : Array Value} {t : TypeId} {fr : Nat × Nat} (hb : w.heap[b]? = some (.cells cs t fr)) (o : Nat) : w.cell? ⟨b, o, none⟩ = cs.toList[o]? := by simp [World.cell?, hb]
theorem seg_get {cs : List Value} {p n k : Nat} {u : Value} (hk : ((cs.drop p).take n)[k]? = some u) : cs[p + k]? = some u := by
  rw [List.getElem?_take] at hk
  split at hk
  · rwa [List.getElem?_drop] at hk
  · simp at hk
/-- A piece of a list that is told cell by cell. -/
theorem pt_seg {α : Type} {R : α → Value → Prop} {l : List α} {us : List Value} (hp : Pt R l us) {off n : Nat} {xs : List α} (hx : xs.length = n) (hxs : ∀ j x, xs[j]? = some x → l[off + j]? = some x) :
    ((us.drop off).take n).length = n ∧ Pt R xs ((us.drop off).take n) := by
  have hlen : n = 0 ∨ off + n ≤ us.length := by
    rcases Nat.eq_zero_or_pos n with h0 | h0
    · exact .inl h0
    · have : (n - 1) < xs.length := by omega
      have := hxs (n - 1) _ (List.getElem?_eq_getElem this)
      have := (List.getElem?_eq_some_iff.1 this).1
      rw [hp.1] at this
      exact .inr (by omega)
  have e : ((us.drop off).take n).length = n := by simp; omega
  refine ⟨e, by rw [hx, e], fun i x y hi hy => ?_⟩
  exact hp.2 (off + i) x y (hxs i x hi) (seg_get hy)
theorem DRel.weakD {w : World} {N : Nat → Prop} {x : D} {v : Value} (h : DRel w N x v) : DRel w N (PX.weakD x) v := by
  cases x <;> first | exact h | exact h.weak
theorem DRel.cast {w : World} {N : Nat → Prop} (z : D) {x : D} {v : Value} (h : DRel w N x v) : DRel w N (castD z x) v := by
  unfold castD
  split
  · rename_i sz _ _ n es f
    cases hb : Nat.beq n sz with
    | true => obtain rfl := Nat.eq_of_beq_eq_true hb; exact h
    | false =>
      simp only [cond_false]
      split
      · cases h with
        | sl us h1 h2 h3 h4 h5 h6 h7 => exact .sl us h1 h2 h3 (fun e he => by simp at he) (fun hne => absurd rfl hne) h6 h7
      · exact h
  · exact h
theorem cast_ds {w : World} {N : Nat → Prop} : ∀ {zs ys : List D} {us : List Value}, Pt (DRel w N) ys us → Pt (DRel w N) (castDs zs ys) us
  | [], ys, us, hp => by cases ys <;> exact hp
  | z :: zs, [], us, hp => hp
  | z :: zs, y :: ys, us, hp => by
    obtain ⟨u, us, rfl, hu, hp⟩ := hp.inv
    exact Pt.cons (hu.cast z).weakD (cast_ds hp)
theorem castDs_len : ∀ {zs ys : List D}, (castDs zs ys).length = ys.length
  | [], ys => by cases ys <;> rfl
  | z :: zs, [] => rfl
  | z :: zs, y :: ys => by simp [castDs, castDs_len]
theorem castLs_len : ∀ {zs : List D} {ys : List Lf}, (castLs zs ys).length = ys.length
  | [], ys => by cases ys <;> rfl
  | z :: zs, [] => rfl
  | z :: zs, y :: ys => by simp [castLs, castLs_len]
theorem cast_l {z : D} {x : Lf} {u : Value} (hx : LRel w h γ x u) : LRel w h γ (castL z x) u := by
  cases x <;> first | exact DRel.cast z hx | exact hx
theorem cast_ls : ∀ {zs : List D} {xs : List Lf} {us : List Value}, Pt (LRel w h γ) xs us → Pt (LRel w h γ) (castLs zs xs) us
  | [], xs, us, hp => by cases xs <;> exact hp
  | z :: zs, [], us, hp => hp
  | z :: zs, x :: xs, us, hp => by
    obtain ⟨u, us, rfl, hu, hp⟩ := hp.inv
    exact Pt.cons (cast_l hu) (cast_ls hp)
theorem cast_o {zs : List D} {x : Lf} {u : Value} (hx : LRel w h γ x u) : LRel w h γ (castO zs x) u := by
  unfold castO
  split
  · exact cast_l hx
  · exact hx
theorem cast_a {zs : List D} {v : AV} {u : Value} (hv : VRel w h γ v u) : VRel w h γ (castA zs v) u := by
  unfold castA
  split
  · split
    · exact cast_l hv
    · exact hv
  · exact hv
theorem likeOne_inv {zs : List D} {x : D} {K : D → Prop} (hk : likeL zs [x] fun ys => at' ys 0 K) : ∃ y, K y ∧ ∀ (w : World) (N : Nat → Prop) (u : Value), DRel w N x u → DRel w N y u := by
  obtain ⟨ys, hk, h, _⟩ := likeL_inv hk
  obtain ⟨y, hy, hk⟩ := at_inv hk
  refine ⟨y, hk, fun w N u hu => ?_⟩
  have := h w N [u] (Pt.cons hu Pt.nil)
  exact this.2 0 y u hy rfl
theorem loadD_ok (H : EOK P E) {t : TypeId} {ti : TI} (hti : E.T t = some ti) {zs : List D} {l : List D} {off b o : Nat} {us : List Value} {K : AV → Prop} (hc : l ≠ [] → ∀ (k : Nat) (u : Value), us[k]? = some u → w.cell? ⟨b, o + k, none⟩ = some u)
    (hp : Pt (DRel w (Ro w h γ)) l us) (hz : ti.size ≠ 0) (hk : loadD zs l off ti.size ti.agg K) : PureOK P w h γ (Instr.loadAt t (.pointer (some ⟨b, o + off, none⟩))) K := by
  unfold loadD at hk
  split at hk
  · rename_i ha
    obtain ⟨xs, h1, h2, hk⟩ := takeP_inv hk
    have hne : l ≠ [] := fun e => by
      have : 0 < xs.length := by omega
      have := h2 0 _ (List.getElem?_eq_getElem this)
      simp [e] at this
    obtain ⟨e1, e2⟩ := pt_seg hp h1 h2
    obtain ⟨ys, hk, hy, _⟩ := likeL_inv hk
    refine ⟨_, _, run_load_agg H hti ha ((us.drop off).take ti.size) e1 (fun j u hj => ?_), hk, _, rfl, Pt.map_left _ (show Pt _ ys (((us.drop off).take ti.size).toArray).toList by rw [List.toList_toArray]; exact hy _ _ _ e2)⟩
    rw [Nat.add_assoc]
    exact hc hne _ u (seg_get hj)
  · rename_i ha
    obtain ⟨x, hx, hk⟩ := at_inv hk
    have hne : l ≠ [] := fun e => by simp [e] at hx
    obtain ⟨u, hu, hr⟩ := hp.get hx
    obtain ⟨y, hk, hy⟩ := likeOne_inv hk
    exact ⟨u, _, run_load_one H hti ha (hc hne _ u hu), hk, hy _ _ _ hr⟩
theorem load_ok (H : EOK P E) (HH : HRel w h γ) {t : TypeId} {v : AV} {u : Value} {K : AV → Prop} (hv : VRel w h γ v u) (hk : loadP E t v h K) : PureOK P w h γ (Instr.loadAt t u) K := by
  unfold loadP at hk
  split at hk
  · exact hk.elim
  rename_i ti hti
  have hz : ti.size ≠ 0 := by
    rcases br_inv hk with ⟨_, hk⟩ | ⟨hz, _⟩
    · exact hk.elim
    · intro e; rw [e] at hz; cases hz
  replace hk := (br_inv hk).elim (fun h => h.2.elim) (fun h => h.2)
  split at hk
  · rename_i id off
    split at hk
    · rename_i l ho
      have ho' := obj_of hv.2.1 ho
      obtain ⟨b, cs, t', hg, hb, hp⟩ := HH.obj _ _ ho'
      obtain ⟨b', p, hg', rfl⟩ := hv.2.2 _ ho' rfl
      rw [hg] at hg'
      simp at hg'
      obtain ⟨rfl, rfl⟩ := hg'
      split at hk
      · rename_i ha
        obtain ⟨xs, h1, h2, hk⟩ := takeP_inv hk
        obtain ⟨e1, e2⟩ := pt_seg hp h1 h2
        refine ⟨_, _, run_load_agg H hti ha ((cs.toList.drop off).take ti.size) e1 (fun j u hj => ?_), hk, _, rfl, by simpa using e2⟩
        rw [cell_of hb, Nat.zero_add]
        exact seg_get hj
      · rename_i ha
        obtain ⟨x, hx, hk⟩ := at_inv hk
        obtain ⟨u, hu, hr⟩ := hp.get hx
        exact ⟨u, _, run_load_one H hti ha (by rw [cell_of hb, Nat.zero_add]; exact hu), hk, hr⟩
    · rename_i l ho
      have ho' := obj_of hv.2.1 ho
      obtain ⟨b, cs, t', hg, hb, hp⟩ := HH.obj _ _ ho'
      obtain ⟨b', p, hg', rfl⟩ := hv.2.2 _ ho' rfl
      rw [hg] at hg'
      simp at hg'
      obtain ⟨rfl, rfl⟩ := hg'
      exact loadD_ok H hti (us := cs.toList) (fun _ k u hk => by rw [cell_of hb, Nat.zero_add]; exact hk) hp hz hk
    · exact hk.elim
  · rename_i id ver i off
    split at hk
    · rename_i sz es v ho
      obtain ⟨hb, hk⟩ := br_t hk
      obtain ⟨e, he, hk⟩ := at_inv hk
      have ho' := obj_of hv.2.1 ho
      have hve := Nat.eq_of_beq_eq_true hb
      obtain ⟨b, p, hg, rfl⟩ := (hv.2.2 sz es v ho').2 hve.symm
      obtain ⟨hU, hrow⟩ := HH.obj _ _ ho'
      rw [hg] at hrow
      obtain ⟨cs, t', hcs, hle, hp⟩ := hrow
      have hl : e.length = sz := hU e (List.mem_of_getElem? he)
      have hpe : Pt (DRel w (Ro w h γ)) e ((((cs.toList.drop p).take (es.length * sz)).drop (i * sz)).take sz) := by
        refine (pt_seg hp hl fun j x hj => ?_).2
        rw [hU.get he j (hl ▸ (List.getElem?_eq_some_iff.1 hj).1)]
        exact hj
      have e3 : p + (i * sz + off) = (p + i * sz) + off := by omega
      rw [e3]
      refine loadD_ok H hti (fun _ k u hk => ?_) hpe hz hk
      rw [cell_of hcs, Nat.add_assoc]
      exact seg_get (seg_get hk)
    · exact hk.elim
  · rename_i l off
    obtain ⟨b, o, us, rfl, h1, h2⟩ := hv
    exact loadD_ok H hti (fun hne => (h1 hne).2) h2 hz hk
  · exact hk.elim

/-! ### Lengths, parts, conversions -/
theorem viewS_inv {v : AV} {u : Value} {K : Nat → List (List D) → Prop} (hk : viewS h v K) (hv : VRel w h γ v u) :
    ∃ sz es, K sz es ∧ ∃ a c, u = .slice a es.length c := by
  unfold viewS at hk
  split at hk
  · unfold dSl at hk
    split at hk
    · obtain ⟨a, c, rfl, _⟩ := elems_at hv
      exact ⟨_, _, hk, a, c, rfl⟩
    · exact hk.elim
  · split at hk
    · rename_i ho
      obtain ⟨hb, hk⟩ := br_t hk
      obtain ⟨_, hr⟩ := row_of hv ho hb
      obtain ⟨a, c, rfl, _⟩ := rowV_slice hr
      exact ⟨_, _, hk, a, c, rfl⟩
    · exact hk.elim
  · split at hk
    · rename_i ho
      obtain ⟨hb, hk⟩ := br_t hk
      obtain ⟨_, hr⟩ := rows_of hv ho hb
      obtain ⟨a, c, rfl, _⟩ := rowV_slice hr
      refine ⟨_, _, hk, a, c, ?_⟩
      congr 1
      unfold RowV at hr
      split at hr
      · simp; omega
      · have := hr.1; simp; omega
    · exact hk.elim
  · exact hk.elim
theorem len_ok (H : EOK P E) (HH : HRel w h γ) {t ty : TypeId} {ts : Array TypeId} (hts : ts[0]? = some t) {v : AV} {u : Value} {K : AV → Prop} (hv : VRel w h γ v u) (hk : lenP E t v h K) : PureOK P w h γ (Builtin.len_ ts ty #[u]) K := by
  have run : ∀ {d}, P.underlying t = some d → (Builtin.len_ ts ty #[u]).run P w = (match d, u with
      | .string, .string s => .ok (goInt s.size) w
      | .array n _, _ => .ok (goInt n) w
      | .slice _, .slice _ n _ => .ok (goInt n) w
      | .map _ _, .map none => .ok (goInt 0) w
      | _, _ => (Builtin.len_ ts ty #[u]).run P w) := by
    intro d hd
    split <;> first | rfl | simp [Builtin.len_, hts, run_underlying hd w]
  unfold lenP at hk
  split at hk
  · exact hk.elim
  rename_i ti hti
  have ht := (H t ti hti).kind
  split at hk
  · rename_i hkk; rw [hkk] at ht
    obtain ⟨s, _, rfl, hk⟩ := asS_inv hk hv
    exact ⟨_, _, run ht, hk, by simp [goInt, ByteArray.size]; exact DRel.int⟩
  · rename_i e hkk; rw [hkk] at ht
    split at hk
    · rename_i id ver off len
      obtain ⟨hc, hk⟩ := br_t hk
      obtain ⟨sz, es, ho⟩ := cur_inv hc hv.2.1
      obtain ⟨a, c, rfl, _⟩ := rowV_slice ((hv.2.2 sz es ver ho).2 rfl)
      exact ⟨_, _, run ht, hk, DRel.int⟩
    · obtain ⟨sz, es, hk, a, c, rfl⟩ := viewS_inv hk hv
      exact ⟨_, _, run ht, hk, DRel.int⟩
  · rename_i n e hkk; rw [hkk] at ht
    exact ⟨_, _, run ht, hk, DRel.int⟩
  · rename_i kt et hkk; rw [hkk] at ht
    split at hk
    · rename_i id
      split at hk
      · rename_i ag kk es ho
        have ho' := obj_of hv.2.1 ho
        obtain ⟨b, ents, clock, hg, hb, _, hp⟩ := HH.obj _ _ ho'
        obtain ⟨b', p, hg', rfl⟩ := hv.2.2 _ _ _ ho'
        rw [hg] at hg'
        simp at hg'
        obtain ⟨rfl, rfl⟩ := hg'
        refine ⟨goInt ents.size, _, ?_, hk, ?_⟩
        · simp [Builtin.len_, hts, run_underlying ht w, getObj, Sem.run, hb]
        · have := hp.1; simp at this; rw [goInt, this]; exact DRel.int
      · exact hk.elim
    · cases hv; exact ⟨_, _, run ht, hk, DRel.int⟩
    · exact hk.elim
  · exact hk.elim
theorem extract_ok {v : AV} {u : Value} {i : Nat} {K : AV → Prop} (hv : VRel w h γ v u) (hk : extractP v i K) : PureOK P w h γ (Instr.extract u i) K := by
  unfold extractP at hk
  split at hk
  · obtain ⟨x, hx, hk⟩ := at_inv hk
    obtain ⟨vs, rfl, hp⟩ := hv
    obtain ⟨y, hy, hr⟩ := hp.get hx
    exact ⟨y, _, by simp [Instr.extract, show vs[i]? = some y by simpa using hy], hk, hr⟩
  · exact hk.elim
theorem index_ok (H : EOK P E) {t : TypeId} {v v' : AV} {u u' : Value} {K : AV → Prop} (hv : VRel w h γ v u) (hv' : VRel w h γ v' u') (hk : indexP E t v v' K) : PureOK P w h γ (Instr.index t u u') K := by
  unfold indexP at hk
  split at hk
  · rename_i hkd
    have hu : P.underlying t = some .string := H.kd hkd
    obtain ⟨s, _, rfl, hk⟩ := asS_inv hk hv
    obtain ⟨k, i, _, rfl, hk⟩ := asI_inv hk hv'
    obtain ⟨h0, hk⟩ := gd_d hk
    obtain ⟨b, hb, hk⟩ := at_inv hk
    refine ⟨.int .u8 b.toNat, _, ?_, hk, DRel.int⟩
    have hb' : (ByteArray.mk s.toArray)[i.toNat]? = some b := by
      have hlt := (List.getElem?_eq_some_iff.1 hb).1
      have : i.toNat < (ByteArray.mk s.toArray).size := by simpa [ByteArray.size] using hlt
      rw [getElem?_pos (ByteArray.mk s.toArray) i.toNat this]
      have e := (List.getElem?_eq_some_iff.1 hb).2
      simp only [Option.some.injEq]
      rw [← e]
      rfl
    simp only [Instr.index, asIntOf, Sem.run_bind, Sem.run_pure, Result.andThen_ok, run_underlying hu w, if_pos h0, hb']
  · rename_i n e hkd
    have hu : P.underlying t = some (.array n e) := H.kd hkd
    split at hk
    · rename_i te l hte
      obtain ⟨k, i, _, rfl, hk⟩ := asI_inv hk hv'
      obtain ⟨⟨h0, h1⟩, hk⟩ := gd_d hk
      split at hk
      · exact hk.elim
      · rename_i ha
        obtain ⟨x, hx, hk⟩ := at_inv hk
        obtain ⟨cs, rfl, hp⟩ := hv
        obtain ⟨y, hy, hr⟩ := hp.get hx
        refine ⟨y, _, ?_, hk, hr⟩
        simp only [Instr.index, asIntOf, Sem.run_bind, Sem.run_pure, Result.andThen_ok, run_underlying hu w, if_pos (show 0 ≤ i ∧ i < n from ⟨h0, h1⟩), H.size hte w, part, H.agg hte w, ha, Sem.run_ite, Bool.false_eq_true, if_false]
        rw [show cs[i.toNat * te.size]? = some y by simpa using hy]
        rfl
    · exact hk.elim
  · exact hk.elim

/-! ### Slicing -/
/-- An operand that may be left out, on both sides. -/
def OptRel (w : World) (h : List Obj) (γ : Gam) (x : Option AV) (a : Option Value) : Prop := match x, a with | none, none => True | some v, some u => VRel w h γ v u | _, _ => False
/-- What such a bound is. -/
def Bnd (a : Option Value) (d n : Int) : Prop := match a with | none => n = d | some u => ∃ k, u = .int k n
theorem bound_ok {x : Option AV} {a : Option Value} {d : Int} {K : Int → Prop} (hx : OptRel w h γ x a) (hk : bound x d K) : ∃ n, K n ∧ Bnd a d n := by
  unfold bound at hk
  split at hk
  · cases a with
    | none => exact ⟨d, hk, rfl⟩
    | some u => exact hx.elim
  · cases a with
    | none => exact hx.elim
    | some u =>
      obtain ⟨k, n, _, rfl, hk⟩ := asI_inv hk hx
      exact ⟨n, hk, k, rfl⟩
theorem run_sliceBound {k : IntKind} {n : Int} {y : Nat} {c : BoundsCode} (h0 : 0 ≤ n) (h1 : n ≤ y) : (Instr.sliceBound (.int k n) y c).run P w = .ok n.toNat w := by
  simp only [Instr.sliceBound, asIntOf, Sem.run_bind, Sem.run_pure, Result.andThen_ok, if_pos (show 0 ≤ n ∧ n ≤ (y : Int) from ⟨h0, h1⟩)]
/-- Bounds that hold: low, high (no max). -/
theorem run_sliceBounds {isS : Bool} {len cap : Nat} {lo hi : Option Value} {i j : Int} (hl : Bnd lo 0 i) (hh : Bnd hi len j)
    (h0 : 0 ≤ i) (h1 : i ≤ j) (h2 : j ≤ cap) (h3 : len ≤ cap) : (Instr.sliceBounds isS len cap lo hi none).run P w = .ok (i.toNat, j.toNat, cap) w := by
  cases hi with
  | none =>
    replace hh : j = len := hh
    subst hh
    cases lo with
    | none => replace hl : i = 0 := hl; subst hl; simp [Instr.sliceBounds]
    | some u =>
      obtain ⟨k, rfl⟩ := hl
      simp [Instr.sliceBounds, run_sliceBound h0 h1]
  | some u =>
    obtain ⟨k, rfl⟩ := hh
    have e : ((j.toNat : Nat) : Int) = j := by omega
    cases lo with
    | none => replace hl : i = 0 := hl; subst hl; simp [Instr.sliceBounds, run_sliceBound (show 0 ≤ j by omega) h2]
    | some u =>
      obtain ⟨k, rfl⟩ := hl
      simp [Instr.sliceBounds, run_sliceBound (show 0 ≤ j by omega) h2, run_sliceBound (y := j.toNat) h0 (by omega)]
theorem run_sliceBounds3 {isS : Bool} {len cap : Nat} {lo : Option Value} {u v : Value} {i j m : Int} {k k' : IntKind} (hl : Bnd lo 0 i) (hu : u = .int k j) (hv : v = .int k' m)
    (h0 : 0 ≤ i) (h1 : i ≤ j) (h2 : j ≤ m) (h3 : m ≤ cap) : (Instr.sliceBounds isS len cap lo (some u) (some v)).run P w = .ok (i.toNat, j.toNat, m.toNat) w := by
  subst hu; subst hv
  have e : ((m.toNat : Nat) : Int) = m := by omega
  have e' : ((j.toNat : Nat) : Int) = j := by omega
  cases lo with
  | none => replace hl : i = 0 := hl; subst hl; simp [Instr.sliceBounds, run_sliceBound (show 0 ≤ m by omega) h3, run_sliceBound (y := m.toNat) (show 0 ≤ j by omega) (by omega)]
  | some u =>
    obtain ⟨k, rfl⟩ := hl
    simp [Instr.sliceBounds, run_sliceBound (show 0 ≤ m by omega) h3, run_sliceBound (y := m.toNat) (show 0 ≤ j by omega) (by omega), run_sliceBound (y := j.toNat) h0 (by omega)]
end
end Go.Proofs.YtahlcbmmjfdcaaaGreatDoor.PX
