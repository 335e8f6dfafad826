/- PX, part 9: append, copy, clear, make. -/
import Derived.Test.YtahlcbmmjfdcaaaGreatDoorPXOps5
set_option linter.all false
namespace Go.Proofs.YtahlcbmmjfdcaaaGreatDoor.PX
set_option linter.unusedVariables false
set_option linter.unusedSimpArgs false
section
variable {P : Program} {E : Env} {w : World} {h : List Obj} {γ : Gam}
/-- What is appended or copied: so many elements, these cells. -/
def SrcOK (P : Program) (w : World) (size : Nat) (u : Value) (n : Nat) (us : List Value) : Prop :=
  (Builtin.lenOf u).run P w = .ok n w ∧ us.length = n * size ∧ (∀ x ∈ us, x.oneCell' = true) ∧ ∀ k, k ≤ n → ∀ w', w' = w ∨ w' = w.drew → (Builtin.firstCells size k u).run P w' = .ok (us.take (k * size)).toArray w'
theorem take_cells {w : World} {b o m : Nat} {us : List Value} (hc : ∀ (k : Nat) (u : Value), us[k]? = some u → w.cell? ⟨b, o + k, none⟩ = some u) : ∀ (j : Nat) (v : Value), (us.take m)[j]? = some v → w.cell? ((⟨b, o, none⟩ : Addr).add j) = some v := by
  intro j v hj
  rw [addr_add]
  rw [List.getElem?_take] at hj
  split at hj
  · exact hc j v hj
  · simp at hj
theorem bytesD_flat : ∀ s : List UInt8, (bytesD s).flatten = s.map fun b => D.int .u8 b.toNat
  | [] => rfl
  | b :: s => by have := bytesD_flat s; simp only [bytesD, List.map_cons, List.flatten_cons] at this ⊢; rw [this]; rfl
theorem src_ok (H : EOK P E) (HH : HRel w h γ) {t2 : TypeId} {v : AV} {u : Value} {n : Nat} {K : Nat → List (List D) → Prop} (hv : VRel w h γ v u) (hk : view E t2 h v fun sz es => okSz sz n es (K sz es)) :
    ∃ sz es us, K sz es ∧ SrcOK P w n u es.length us ∧ Uni n es ∧ Pt (DRel w (Ro w h γ)) es.flatten us ∧ (∃ d, P.underlying t2 = some d ∧ ∀ k, d ≠ .int k) := by
  unfold view at hk
  split at hk
  · rename_i hkd
    obtain ⟨s, _, rfl, hk⟩ := asS_inv hk hv
    obtain ⟨hsz, hk⟩ := okSz_inv hk
    have hflat := bytesD_flat s
    have hlen : (bytesD s).length = s.length := by simp [bytesD]
    have hn : n = 1 ∨ s = [] := by
      rcases hsz with h1 | h1
      · exact .inl h1.symm
      · right
        have := congrArg List.length h1
        rw [hlen] at this
        exact List.eq_nil_of_length_eq_zero this
    refine ⟨1, bytesD s, s.map fun b => .int .u8 b.toNat, hk, ⟨?_, ?_, ?_, ?_⟩, ?_, ?_, .string, H.kd hkd, fun k hk => by cases hk⟩
    · simp [Builtin.lenOf, ByteArray.size, hlen]
    · rw [hlen]; rcases hn with rfl | rfl <;> simp
    · intro x hx; simp at hx; obtain ⟨b, _, rfl⟩ := hx; rfl
    · intro k hk w' _
      simp only [Builtin.firstCells, Sem.run_pure]
      congr 1
      apply Array.ext'
      rw [hlen] at hk
      simp only [ByteArray.data_extract, List.extract_toArray, Array.toList_map]
      have hkn : k * n = k := by
        rcases hn with rfl | rfl
        · simp
        · simp at hk; subst hk; simp
      rw [hkn]
      simp [List.map_take]
    · rcases hn with rfl | rfl
      · intro e he; simp [bytesD] at he; obtain ⟨b, _, rfl⟩ := he; rfl
      · intro e he; simp [bytesD] at he
    · rw [hflat]
      exact ⟨by simp, fun i x y hx hy => by
        rw [List.getElem?_map] at hx hy
        obtain ⟨b, hb, rfl⟩ := Option.map_eq_some_iff.1 hx
        rw [hb] at hy
        simp at hy
        subst hy
        exact DRel.int⟩
  · rename_i e hkd
    obtain ⟨sz, es, a, c, us, hk, rfl, hU, hc, hp⟩ := viewS_cells HH hk hv
    obtain ⟨hsz, hk⟩ := okSz_inv hk
    have hU' : Uni n es := by
      rcases hsz with rfl | rfl
      · exact hU
      · intro e he; simp at he
    have hl : us.length = es.length * n := by rw [← hp.1, hU'.len]
    refine ⟨sz, es, us, hk, ⟨by simp [Builtin.lenOf], hl, data_one hp, fun k hk w' hw' => ?_⟩, hU', hp, .slice e, H.kd hkd, fun k hk => by cases hk⟩
    have hkl : (us.take (k * n)).length = k * n := by
      have := Nat.mul_le_mul_right n hk
      simp; omega
    rcases hc with hc | ⟨b, o, rfl, hc⟩
    · subst hc
      have h0 : k * n = 0 := by simpa using hkl.symm
      cases a with
      | none => simp [Builtin.firstCells]
      | some ad => simp [Builtin.firstCells, h0, loadCells, loadCellsFrom]
    · refine run_firstCells_some (P := P) w' n k ⟨b, o, none⟩ es.length c _ hkl (fun j v hj => ?_)
      rcases hw' with rfl | rfl
      · exact take_cells hc j v hj
      · rw [World.cell?_drew]; exact take_cells hc j v hj
  · exact hk.elim
theorem EOK.bytes {P : Program} {E : Env} (H : EOK P E) {t : TypeId} {ti : TI} (h : E.T t = some ti) : ∃ i, P.info? t = some i ∧ i.size = ti.size ∧ i.bytes = ti.bytes := by
  obtain ⟨i, h1, h2, h3, _⟩ := (H t ti h).info
  exact ⟨i, h1, h2, h3⟩
theorem app_in (H : EOK P E) {t t2 e ty : TypeId} {te : TI} {ts : Array TypeId} (h0 : ts[0]? = some t) (h1 : ts[1]? = some t2) (ht : P.underlying t = some (.slice e)) (hte : E.T e = some te) (ht2 : ∃ d, P.underlying t2 = some d ∧ ∀ k, d ≠ .int k)
    {base : Option Addr} {sLen sCap n : Nat} {u : Value} {us : List Value} (hs : SrcOK P w te.size u n us) (hroom : sLen + n ≤ sCap) :
    (Builtin.append_ ts ty #[.slice base sLen sCap, u]).run P w = (match base with | some a => ((storeCells (a.add (sLen * te.size)) us).run P w).andThen (fun _ w' => .ok (.slice base (sLen + n) sCap) w') | none => .ok (.slice base (sLen + n) sCap) w) := by
  obtain ⟨d, hd, hdi⟩ := ht2
  obtain ⟨i, hi, his, hib⟩ := H.bytes hte
  have hf := hs.2.2.2 n (Nat.le_refl _) w (.inl rfl)
  rw [List.take_of_length_le (by rw [hs.2.1]; exact Nat.le_refl _)] at hf
  have hz : (match d with | .int _ => true | _ => false) = false := by cases d <;> first | rfl | exact absurd rfl (hdi _)
  simp only [Builtin.append_, h0, h1, List.getElem?_toArray, List.getElem?_cons_zero, List.getElem?_cons_succ, Sem.run_bind, run_underlying ht w, Result.andThen_ok, H.size hte w, run_underlying hd w, Sem.run_pure, hz, Bool.false_eq_true, if_false, hs.1, Bool.not_false, if_true, if_pos hroom, hf]
  cases base with
  | none => rfl
  | some a => simp only [Sem.run_bind, Sem.run_pure]
theorem app_re (H : EOK P E) {t t2 e ty : TypeId} {te : TI} {ts : Array TypeId} (h0 : ts[0]? = some t) (h1 : ts[1]? = some t2) (ht : P.underlying t = some (.slice e)) (hte : E.T e = some te) (ht2 : ∃ d, P.underlying t2 = some d ∧ ∀ k, d ≠ .int k)
    {base : Option Addr} {sLen sCap n : Nat} {u : Value} {us olds : List Value} (hs : SrcOK P w te.size u n us) (hroom : sCap < sLen + n) (hb0 : 0 < te.bytes) (hb : (sLen + n) * te.bytes ≤ 2 ^ 47) (hz : te.zero.length = te.size)
    (hol : (Builtin.firstCells te.size sLen (.slice base sLen sCap)).run P w.drew = .ok olds.toArray w.drew) :
    ∃ rest newCap, sLen + n ≤ newCap ∧ rest.length = (newCap - (sLen + n)) * te.size ∧ (Builtin.append_ ts ty #[.slice base sLen sCap, u]).run P w = .ok (.slice (some ⟨w.heap.size, 0, none⟩) (sLen + n) newCap) (w.drew.alloc (.cells (olds ++ us ++ rest).toArray e)) := by
  obtain ⟨d, hd, hdi⟩ := ht2
  obtain ⟨i, hi, his, hib⟩ := H.bytes hte
  obtain ⟨z, hz1, hz2⟩ := H.zero hte hz
  have hf := hs.2.2.2 n (Nat.le_refl _) w.drew (.inr rfl)
  rw [List.take_of_length_le (by rw [hs.2.1]; exact Nat.le_refl _)] at hf
  have hzf : (match d with | .int _ => true | _ => false) = false := by cases d <;> first | rfl | exact absurd rfl (hdi _)
  have hzs : z.cells.size = te.size := by have := (mv_cells (hz2 w (fun _ => True))).1; simp at this; omega
  have hneed : sLen + n ≤ 2 ^ 47 := Nat.le_trans (Nat.le_mul_of_pos_right _ hb0) hb
  refine ⟨(Builtin.zeroCells z.cells (grownCap w (sLen + n) sCap e - (sLen + n))).toList, grownCap w (sLen + n) sCap e, grownCap_ge .., by rw [Array.length_toList, size_zeroCells, hzs], ?_⟩
  have c1 : ¬ (((sLen + n : Nat) : Int) > IntKind.i64.max ∧ (false = true ∨ i.bytes = 0)) := by
    rintro ⟨_, hx | hx⟩
    · cases hx
    · omega
  have c2 : ¬ (Builtin.nextslicecap (sLen + n) sCap * i.bytes > 2 ^ 48) := by
    have := growslice_fits (bytes := i.bytes) hroom (by rw [hib]; exact hb)
    omega
  have hti : ∀ w', (typeInfo e).run P w' = .ok i w' := fun w' => by simp [typeInfo, hi]
  simp only [Builtin.append_, h0, h1, List.getElem?_toArray, List.getElem?_cons_zero, List.getElem?_cons_succ, Sem.run_bind, run_underlying ht w, Result.andThen_ok, H.size hte w, run_underlying hd w, Sem.run_pure, hzf, Bool.false_eq_true, if_false, hs.1, Bool.not_false, if_true,
    if_neg (show ¬ sLen + n ≤ sCap by omega), hti]
  rw [if_neg (by simpa using c1)]
  simp only [Sem.run_bind, Sem.run_pure, Result.andThen_ok, hti]
  rw [if_neg c2]
  simp only [Sem.run_bind, Sem.run_pure, Result.andThen_ok, run_choose, Question.forced, Bool.false_eq_true, if_false, run_askRoom, hti]
  rw [show ({ w with drawn := w.drawn + 1 } : World) = w.drew from rfl]
  simp only [hol, hf, Result.andThen_ok, hz1, newRow, Sem.run_bind, run_newObj, Sem.run_pure, World.alloc_eq]
  rw [show (w.drew).heap.size = w.heap.size from rfl]
  congr 1
  · congr 2
    apply Array.ext'
    simp [grownCap]

theorem row_handle {w' : World} {h' : List Obj} {γ' : Gam} {id ver sz : Nat} {es : List (List D)} {u : Value} (hid : h'[id]? = some (.row sz es ver)) (hu : u.oneCell' = true) (hr : RowV w' γ' id sz es.length 0 es.length u) : VRel w' h' γ' (.lf (.rw id ver)) u := by
  refine ⟨hu, (List.getElem?_eq_some_iff.1 hid).1, fun sz' es' k ho => ?_⟩
  rw [hid] at ho
  simp at ho
  obtain ⟨rfl, rfl, rfl⟩ := ho
  exact ⟨Nat.le_refl _, fun _ => hr⟩
theorem set_at {h : List Obj} {id : Nat} {o o' : Obj} (hid : h[id]? = some o) : (h.set id o')[id]? = some o' := by
  have := (List.getElem?_eq_some_iff.1 hid).1
  simp [this]
/-- A row of our own grows at its end, in its block or in a new one. -/
theorem grow_ok (H : EOK P E) (HH : HRel w h γ) {t t2 e ty : TypeId} {te : TI} {ts : Array TypeId} (h0 : ts[0]? = some t) (h1 : ts[1]? = some t2) (ht : P.underlying t = some (.slice e)) (hte : E.T e = some te) (ht2 : ∃ d, P.underlying t2 = some d ∧ ∀ k, d ≠ .int k)
    (hb0 : 0 < te.bytes) (hz : te.zero.length = te.size) {id ver len : Nat} {es es2 : List (List D)} (hid : h[id]? = some (.row te.size es ver)) {u1 u2 : Value} (hr : RowV w γ id te.size es.length 0 len u1) {us : List Value} (hs : SrcOK P w te.size u2 es2.length us)
    (hU2 : Uni te.size es2) (hp2 : Pt (DRel w (Ro w h γ)) es2.flatten us) (hbd : (len + es2.length) * te.bytes ≤ 2 ^ 47) {K : AV → List Obj → Prop} (hk : K (.lf (.rw id (ver + 1))) (h.set id (.row te.size (es.take len ++ es2) (ver + 1)))) :
    HeapOK P w h γ (Builtin.append_ ts ty #[u1, u2]) K := by
  obtain ⟨hU, hrow⟩ := HH.obj _ _ hid
  have hlen : len ≤ es.length := by
    unfold RowV at hr
    split at hr
    · obtain ⟨_, rfl, _⟩ := hr; omega
    · have := hr.1; omega
  have hl2 : (es.take len ++ es2).length = len + es2.length := by simp; omega
  have hU' : Uni te.size (es.take len ++ es2) := (hU.take len).append hU2
  -- into a new block
  have re : ∀ {a : Option Addr} {cap : Nat} {olds : List Value}, u1 = .slice a len cap → cap < len + es2.length → (Builtin.firstCells te.size len (.slice a len cap)).run P w.drew = .ok olds.toArray w.drew → Pt (DRel w (Ro w h γ)) (es.take len).flatten olds →
      HeapOK P w h γ (Builtin.append_ ts ty #[u1, u2]) K := by
    intro a cap olds hu hc hf ho
    subst hu
    obtain ⟨rest, nc, g1, g2, g3⟩ := app_re (ty := ty) H h0 h1 ht hte ht2 hs hc hb0 hbd hz hf
    have st0 := Step.drew HH
    have hol : olds.length = len * te.size := by rw [← ho.1, (hU.take len).len]; simp; rw [Nat.min_eq_left hlen]
    have hcs : (olds ++ us ++ rest).length = nc * te.size := by
      simp only [List.length_append, hol, hs.2.1, g2]
      rw [← Nat.add_mul, ← Nat.add_mul]
      congr 1; omega
    have st := Step.turn st0.rel (o := .row te.size es ver) hid (.row te.size (es.take len ++ es2) (ver + 1)) (w' := w.drew.alloc (.cells (olds ++ us ++ rest).toArray e)) (some (w.heap.size, 0)) rfl rfl rfl (by simp) (fun b hb _ => heap_alloc_lt hb)
      (fun _ b p hbp => by simp at hbp; exact .inl (by rw [← hbp.1]; exact Nat.le_refl _)) (.inr ⟨rfl, .inl (by omega)⟩) (fun f ev => ⟨hU', by
        rw [upd_same]
        refine ⟨_, e, heap_alloc_at w.drew _, ?_, ?_⟩
        · rw [hl2]; simp only [List.size_toArray, hcs, Nat.zero_add]; exact Nat.mul_le_mul_right _ g1
        · rw [hl2, List.toList_toArray, List.drop_zero, List.flatten_append]
          have : (olds ++ us ++ rest).take ((len + es2.length) * te.size) = olds ++ us := by
            rw [List.take_append_of_le_length (by simp [hol, hs.2.1, Nat.add_mul]), List.take_of_length_le (by simp [hol, hs.2.1, Nat.add_mul])]
          rw [this]
          exact (ho.append hp2).mono fun x y _ hxy => (hxy.fr st0.fr).fr f⟩)
    refine ⟨_, _, g3, _, _, _, hk, row_handle (set_at hid) rfl ?_, st0.trans st⟩
    unfold RowV
    rw [upd_same, hl2]
    refine ⟨by omega, _, nc, rfl, g1, by omega, fun _ => by simp, _, e, heap_alloc_at w.drew _, ?_⟩
    simp only [List.size_toArray, hcs]
    simp
  unfold RowV at hr
  split at hr
  · rename_i hg
    rw [hg] at hrow
    obtain rfl : es = [] := hrow
    obtain ⟨_, rfl, a, rfl⟩ := hr
    by_cases hn : es2.length = 0
    · have hus : us = [] := List.eq_nil_of_length_eq_zero (by rw [hs.2.1, hn, Nat.zero_mul])
      have hes2 : es2 = [] := List.eq_nil_of_length_eq_zero hn
      subst hus; subst hes2
      have hrun := app_in (ty := ty) H h0 h1 ht hte ht2 (base := a) (sLen := 0) (sCap := 0) hs (by simp)
      have st := Step.turn HH (o := .row te.size [] ver) hid (.row te.size [] (ver + 1)) (w' := w) none rfl rfl rfl (Nat.le_refl _) (fun _ _ _ => rfl) (fun _ b p hbp => by cases hbp) (.inr ⟨rfl, .inl (by omega)⟩) (fun f ev => ⟨hU, by rw [upd_same]⟩)
      refine ⟨.slice a 0 0, w, ?_, _, _, _, hk, row_handle (set_at hid) rfl ?_, st⟩
      · rw [hrun]; cases a <;> rfl
      · unfold RowV; rw [upd_same]; exact ⟨rfl, rfl, a, rfl⟩
    · exact re (olds := []) rfl (by omega) (by cases a <;> simp [Builtin.firstCells, loadCells, loadCellsFrom]) Pt.nil
  · rename_i b p hg
    rw [hg] at hrow
    obtain ⟨cs, t', hcs, hsz, hp⟩ := hrow
    obtain ⟨g1, a, cap, rfl, g2, g3, g4, g5⟩ := hr
    simp only [Nat.zero_mul, Nat.add_zero, Nat.zero_add] at g1 g3 g4 g5
    by_cases hroom : len + es2.length ≤ cap
    · have hrun := app_in (ty := ty) H h0 h1 ht hte ht2 (base := a) (sLen := len) (sCap := cap) hs hroom
      obtain ⟨cs', t'', hcs', hfit⟩ := g5
      rw [hcs] at hcs'
      simp at hcs'
      obtain ⟨rfl, rfl⟩ := hcs'
      have hmul := Nat.mul_le_mul_right te.size hroom
      rw [Nat.add_mul] at hmul
      have hst : ∃ w', (match a with | some b' => ((storeCells (b'.add (len * te.size)) us).run P w).andThen (fun _ w' => (.ok (.slice a (len + es2.length) cap) w' : Result Value)) | none => (.ok (.slice a (len + es2.length) cap) w : Result Value)) = .ok (.slice a (len + es2.length) cap) w' ∧ w' = w.setRow b (setN cs.toList (p + len * te.size) us).toArray := by
        rcases Nat.eq_zero_or_pos cap with hc0 | hc0
        · have hus : us = [] := List.eq_nil_of_length_eq_zero (by rw [hs.2.1, show es2.length = 0 by omega, Nat.zero_mul])
          subst hus
          refine ⟨w, by cases a <;> rfl, ?_⟩
          simp only [setN, Array.toArray_toList]
          exact (setRow_self w b cs t' (0, 0) hcs).symm
        · rw [g4 hc0]
          simp only [addr_add]
          have e1 := run_storeCells_at (P := P) b (p + len * te.size) t' us 0 cs w hcs (by rw [hs.2.1]; omega) hs.2.2.1
          refine ⟨_, by rw [e1]; rfl, ?_⟩
          rw [setN_eq (by rw [hs.2.1]; simp; omega)]
          rfl
      obtain ⟨w', hrun2, rfl⟩ := hst
      have hoe : OE w γ (w.setRow b (setN cs.toList (p + len * te.size) us).toArray) γ id (.row te.size es ver) (.row te.size (es.take len ++ es2) (ver + 1)) := .inr ⟨rfl, .inl (by omega)⟩
      have st := turn_cells HH hid rfl hg hcs (cs' := (setN cs.toList (p + len * te.size) us).toArray) (by simp [setN_len]) hoe (fun f ev => ⟨hU', by
        rw [hg]
        refine ⟨_, t', setRow_heap w _ _ _ _ _ hcs, by simp only [List.size_toArray, setN_len, Array.length_toList, hl2, Nat.add_mul]; omega, ?_⟩
        rw [List.toList_toArray, hl2, setN_seg (by rw [hs.2.1, Nat.add_mul]; omega) (by simp only [Array.length_toList, Nat.add_mul]; omega)]
        have hseg : Pt (DRel w (Ro w h γ)) (es.take len).flatten ((cs.toList.drop p).take (len * te.size)) := by
          have := hp.take (len * te.size)
          rw [← hU.flatten_take, List.take_take, Nat.min_eq_left (Nat.mul_le_mul_right _ hlen)] at this
          exact this
        have e2 : ∀ L : List Value, (len + es2.length) * te.size ≤ L.length → setN (L.take ((len + es2.length) * te.size)) (len * te.size) us = L.take (len * te.size) ++ us := by
          intro L hL
          rw [setN_eq (by simp only [List.length_take, hs.2.1, Nat.add_mul] at hL ⊢; omega), List.take_take, Nat.min_eq_left (by rw [Nat.add_mul]; omega), List.drop_of_length_le (l := L.take _) (by simp only [List.length_take, hs.2.1, Nat.add_mul] at hL ⊢; omega), List.append_nil]
        rw [e2 _ (by simp only [List.length_drop, Array.length_toList, Nat.add_mul]; omega), List.flatten_append]
        exact (hseg.append hp2).mono fun x y _ hxy => hxy.fr f⟩)
      refine ⟨.slice a (len + es2.length) cap, _, ?_, _, _, _, hk, row_handle (set_at hid) rfl ?_, st⟩
      · rw [hrun]; exact hrun2
      · unfold RowV
        rw [hg, hl2]
        exact ⟨by omega, a, cap, rfl, hroom, by omega, fun hc => by rw [g4 hc]; simp, has_setRow hcs (by simp [setN_len]) ⟨cs, t', hcs, by simpa using hfit⟩⟩
    · rcases Nat.eq_zero_or_pos cap with hc0 | hc0
      · refine re (olds := []) rfl (by omega) ?_ (by rw [show len = 0 by omega]; exact Pt.nil)
        rw [show len = 0 by omega]
        cases a <;> simp [Builtin.firstCells, loadCells, loadCellsFrom]
      · have hseg : Pt (DRel w (Ro w h γ)) (es.take len).flatten ((cs.toList.drop p).take (len * te.size)) := by
          have := hp.take (len * te.size)
          rw [← hU.flatten_take, List.take_take, Nat.min_eq_left (Nat.mul_le_mul_right _ hlen)] at this
          exact this
        have hsl : ((cs.toList.drop p).take (len * te.size)).length = len * te.size := by rw [← hseg.1, (hU.take len).len]; simp; rw [Nat.min_eq_left hlen]
        refine re (olds := (cs.toList.drop p).take (len * te.size)) rfl (by omega) ?_ hseg
        rw [g4 hc0]
        refine run_firstCells_some (P := P) w.drew te.size len ⟨b, p, none⟩ len cap _ hsl (fun j v hj => ?_)
        rw [World.cell?_drew, addr_add, cell_of hcs]
        exact seg_get hj
/-- Elements of a row of our own are written where they lie. -/
theorem over_ok (H : EOK P E) (HH : HRel w h γ) {sz id ver : Nat} {es : List (List D)} (hid : h[id]? = some (.row sz es ver)) {b p : Nat} (hg : γ id = some (b, p)) {i : Nat} {es2 : List (List D)} (hle : i + es2.length ≤ es.length) (hU2 : Uni sz es2) {us : List Value}
    (hp2 : Pt (DRel w (Ro w h γ)) es2.flatten us) : ∃ cs e, w.heap[b]? = some (.cells cs e (0, 0)) ∧ p + i * sz + us.length ≤ cs.size ∧ Step w h γ (w.setRow b (setN cs.toList (p + i * sz) us).toArray) (h.set id (.row sz (es.take i ++ es2 ++ es.drop (i + es2.length)) ver)) γ := by
  obtain ⟨hU, hrow⟩ := HH.obj _ _ hid
  rw [hg] at hrow
  obtain ⟨cs, t', hcs, hsz, hp⟩ := hrow
  have hul : us.length = es2.length * sz := by rw [← hp2.1, hU2.len]
  have hmul := Nat.mul_le_mul_right sz hle
  rw [Nat.add_mul] at hmul
  have hl : (es.take i ++ es2 ++ es.drop (i + es2.length)).length = es.length := by simp; omega
  have hU' : Uni sz (es.take i ++ es2 ++ es.drop (i + es2.length)) := ((hU.take _).append hU2).append (hU.drop _)
  refine ⟨cs, t', hcs, by omega, ?_⟩
  have hoe : OE w γ (w.setRow b (setN cs.toList (p + i * sz) us).toArray) γ id (.row sz es ver) (.row sz (es.take i ++ es2 ++ es.drop (i + es2.length)) ver) := .inr ⟨rfl, .inr ⟨rfl, rfl, by rw [hl], fun b' p' hg' n hn => has_setRow hcs (by simp [setN_len]) hn⟩⟩
  refine turn_cells HH hid rfl hg hcs (cs' := (setN cs.toList (p + i * sz) us).toArray) (by simp [setN_len]) hoe (fun f ev => ⟨hU', ?_⟩)
  rw [hg]
  refine ⟨_, t', setRow_heap w _ _ _ _ _ hcs, by rw [hl]; simpa [setN_len] using hsz, ?_⟩
  rw [List.toList_toArray, hl, setN_seg (by omega) (by simpa using hsz)]
  have e2 : (es.take i ++ es2 ++ es.drop (i + es2.length)).flatten = setN es.flatten (i * sz) es2.flatten := by
    rw [setN_eq (by rw [hU2.len, hU.len]; omega), List.flatten_append, List.flatten_append, hU.flatten_take, hU.flatten_drop, hU2.len, Nat.add_mul]
  rw [e2]
  exact setN_rel (hp.mono fun x y _ hxy => hxy.fr f) (hp2.mono fun x y _ hxy => hxy.fr f)
theorem rows_handle {w' : World} {h' : List Obj} {γ' : Gam} {id ver sz off len : Nat} {es : List (List D)} {u : Value} (hid : h'[id]? = some (.row sz es ver)) (hu : u.oneCell' = true) (hr : RowV w' γ' id sz es.length off len u) : VRel w' h' γ' (.lf (.rws id ver off len)) u := by
  refine ⟨hu, (List.getElem?_eq_some_iff.1 hid).1, fun sz' es' k ho => ?_⟩
  rw [hid] at ho
  simp at ho
  obtain ⟨rfl, rfl, rfl⟩ := ho
  exact ⟨Nat.le_refl _, fun _ => hr⟩
theorem append_ok (H : EOK P E) (HH : HRel w h γ) {t t2 ty : TypeId} {ts : Array TypeId} (h0 : ts[0]? = some t) (h1 : ts[1]? = some t2) {x y : AV} {u1 u2 : Value} (hx : VRel w h γ x u1) (hy : VRel w h γ y u2) {K : AV → List Obj → Prop}
    (hk : appendP E t t2 x y h K) : HeapOK P w h γ (Builtin.append_ ts ty #[u1, u2]) K := by
  unfold appendP at hk
  split at hk
  case h_2 => exact hk.elim
  rename_i e hkd
  have ht : P.underlying t = some (.slice e) := H.kd hkd
  split at hk
  · exact hk.elim
  rename_i te hte
  obtain ⟨hb, hk1⟩ := br_t hk
  clear hk
  simp only [Bool.and_eq_true, Nat.blt_eq] at hb
  obtain ⟨hb0, hz⟩ := hb
  have hz := Nat.eq_of_beq_eq_true hz
  obtain ⟨sz2, es2, us, hk, hs, hU2, hp2, ht2⟩ := src_ok H HH hy hk1
  clear hk1
  have hul : us.length = es2.length * te.size := by rw [← hp2.1, hU2.len]
  split at hk
  · rename_i d
    unfold dSl at hk
    split at hk
    case h_2 => exact hk.elim
    rename_i sz1 es1 f
    have key : f = .nil ∨ f = .tight → es1 = [] ∧ es2.length * te.bytes ≤ 2 ^ 47 ∧ K (.lf (.rw h.length 0)) (h ++ [.row te.size es2 0]) := by
      intro hf
      have hk : gd (es1.isEmpty && decide (es2.length * te.bytes ≤ 2 ^ 47)) (K (.lf (.rw h.length 0)) (h ++ [.row te.size es2 0])) := by rcases hf with rfl | rfl <;> exact hk
      obtain ⟨hg, hk⟩ := gd_t hk
      rw [Bool.and_eq_true, decide_eq_true_eq] at hg
      exact ⟨List.isEmpty_iff.1 hg.1, hg.2, hk⟩
    have hf : f = .nil ∨ f = .tight := by cases f <;> simp_all
    obtain ⟨rfl, hbd, hk2⟩ := key hf
    clear key
    clear hk
    have hk := hk2
    obtain ⟨a, rfl⟩ : ∃ a, u1 = .slice a 0 0 := by
      cases hx with
      | @sl _ _ _ a cap us0 g1 g2 g3 =>
        refine ⟨a, ?_⟩
        rcases hf with rfl | rfl
        · rw [(g3 rfl).2.2]; rfl
        · rw [g2 rfl]; rfl
    by_cases hn : es2.length = 0
    · have hus : us = [] := List.eq_nil_of_length_eq_zero (by rw [hul, hn, Nat.zero_mul])
      have hes2 : es2 = [] := List.eq_nil_of_length_eq_zero hn
      subst hus; subst hes2
      have hrun := app_in (ty := ty) H h0 h1 ht hte ht2 (base := a) (sLen := 0) (sCap := 0) hs (by simp)
      have st := Step.newNil HH te.size
      refine ⟨.slice a 0 0, w, by rw [hrun]; cases a <;> rfl, _, _, _, hk, row_handle (sz := te.size) (es := []) (by simp) rfl ?_, st⟩
      unfold RowV; rw [upd_same]; exact ⟨rfl, rfl, a, rfl⟩
    · obtain ⟨rest, nc, g1, g2, g3⟩ := app_re (ty := ty) H h0 h1 ht hte ht2 (base := a) (sLen := 0) (sCap := 0) (olds := []) hs (by omega) hb0 (by simpa using hbd) hz (by cases a <;> simp [Builtin.firstCells, loadCells, loadCellsFrom])
      have st0 := Step.drew HH
      have g1' : es2.length ≤ nc := by omega
      have hcs : (us ++ rest).length = nc * te.size := by
        simp only [List.length_append, hul, g2]
        rw [← Nat.add_mul]
        congr 1; omega
      have hmul := Nat.mul_le_mul_right te.size g1'
      obtain ⟨hv, st⟩ := new_row st0.rel (sz := te.size) (es := es2) (cs := (us ++ rest).toArray) e hU2 (by simp only [List.size_toArray, hcs]; exact hmul) (by
        rw [List.toList_toArray, List.take_append_of_le_length (by omega), List.take_of_length_le (by omega)]
        exact hp2.mono fun x y _ hxy => hxy.fr st0.fr) (cap := nc) g1' (by simp only [List.size_toArray, hcs]; exact Nat.le_refl _)
      refine ⟨_, _, ?_, _, _, _, hk, hv, st0.trans st⟩
      rw [g3]
      simp
  · rename_i id ver
    split at hk
    · rename_i sz es v ho
      obtain ⟨hb, hk⟩ := br_t hk
      obtain ⟨hbd, hk⟩ := gd_d hk
      simp only [Bool.and_eq_true] at hb
      obtain ⟨ho', hr⟩ := row_of hx ho hb.1
      have hsz := Nat.eq_of_beq_eq_true hb.2
      have hve := Nat.eq_of_beq_eq_true hb.1
      subst hsz; subst hve
      exact grow_ok H HH h0 h1 ht hte ht2 hb0 hz ho' hr hs hU2 hp2 hbd (by rwa [List.take_of_length_le (Nat.le_refl _)])
    · exact hk.elim
  · rename_i id ver off len
    split at hk
    · rename_i sz es v ho
      obtain ⟨hb, hk⟩ := br_t hk
      obtain ⟨hbd, hk⟩ := gd_d hk
      simp only [Bool.and_eq_true] at hb
      obtain ⟨ho', hr⟩ := rows_of hx ho hb.1
      have hsz := Nat.eq_of_beq_eq_true hb.2
      have hve := Nat.eq_of_beq_eq_true hb.1
      subst hsz; subst hve
      rcases br_inv hk with ⟨hd, hk2⟩ | ⟨hd, hk2⟩
      · have hd : off + len + es2.length ≤ es.length := by simpa using hd
        cases hg : γ id with
        | none =>
          unfold RowV at hr
          rw [hg] at hr
          obtain ⟨rfl, rfl, a, rfl⟩ := hr
          have hrow := (HH.obj _ _ ho').2
          rw [hg] at hrow
          subst hrow
          have hn : es2.length = 0 := by simpa using hd
          have hes2 : es2 = [] := List.eq_nil_of_length_eq_zero hn
          have hus : us = [] := List.eq_nil_of_length_eq_zero (by rw [hul, hn, Nat.zero_mul])
          subst hus; subst hes2
          have hrun := app_in (ty := ty) H h0 h1 ht hte ht2 (base := a) (sLen := 0) (sCap := 0) hs (by simp)
          refine ⟨.slice a 0 0, w, by rw [hrun]; cases a <;> rfl, _, _, γ, hk2, rows_handle (set_at ho') rfl ?_, ?_⟩
          · unfold RowV; rw [hg]; exact ⟨rfl, rfl, a, rfl⟩
          · have e3 : h.set id (.row te.size (List.take (0 + 0) [] ++ [] ++ List.drop (0 + 0 + ([] : List (List D)).length) []) v) = h := by
              obtain ⟨hlt, he⟩ := List.getElem?_eq_some_iff.1 ho'
              simp only [List.take_nil, List.drop_nil, List.append_nil]
              rw [← he, List.set_getElem_self]
            rw [e3]
            exact Step.refl HH
        | some bp =>
          obtain ⟨b, p⟩ := bp
          unfold RowV at hr
          rw [hg] at hr
          obtain ⟨g1, a, cap, rfl, g2, g3, g4, g5⟩ := hr
          have hroom : len + es2.length ≤ cap := by omega
          obtain ⟨cs, t', hcs, hfit, st⟩ := over_ok H HH ho' hg hd hU2 hp2
          have hrun := app_in (ty := ty) H h0 h1 ht hte ht2 (base := a) (sLen := len) (sCap := cap) hs hroom
          have hst : (match a with | some b' => ((storeCells (b'.add (len * te.size)) us).run P w).andThen (fun _ w' => (.ok (.slice a (len + es2.length) cap) w' : Result Value)) | none => (.ok (.slice a (len + es2.length) cap) w : Result Value)) = .ok (.slice a (len + es2.length) cap) (w.setRow b (setN cs.toList (p + (off + len) * te.size) us).toArray) := by
            rcases Nat.eq_zero_or_pos cap with hc0 | hc0
            · have hus : us = [] := List.eq_nil_of_length_eq_zero (by rw [hul, show es2.length = 0 by omega, Nat.zero_mul])
              subst hus
              simp only [setN, Array.toArray_toList]
              rw [setRow_self w b cs t' (0, 0) hcs]
              cases a <;> rfl
            · rw [g4 hc0]
              simp only [addr_add]
              have e1 := run_storeCells_at (P := P) b (p + (off + len) * te.size) t' us 0 cs w hcs (by omega) hs.2.2.1
              rw [show p + off * te.size + len * te.size = p + (off + len) * te.size by rw [Nat.add_mul]; omega, e1, setN_eq (by simpa using hfit)]
              rfl
          refine ⟨.slice a (len + es2.length) cap, _, ?_, _, _, _, hk2, rows_handle (set_at ho') rfl ?_, st⟩
          · rw [hrun]; exact hst
          · unfold RowV
            rw [hg]
            have hl : (es.take (off + len) ++ es2 ++ es.drop (off + len + es2.length)).length = es.length := by simp; omega
            rw [hl]
            exact ⟨by omega, a, cap, rfl, hroom, g3, g4, has_setRow hcs (by simp [setN_len]) g5⟩
      · obtain ⟨hoff, hk2⟩ := gd_t hk2
        replace hoff := Nat.eq_of_beq_eq_true hoff
        subst hoff
        exact grow_ok H HH h0 h1 ht hte ht2 hb0 hz ho' hr hs hU2 hp2 hbd hk2
    · exact hk.elim
  · exact hk.elim
end
end Go.Proofs.YtahlcbmmjfdcaaaGreatDoor.PX
