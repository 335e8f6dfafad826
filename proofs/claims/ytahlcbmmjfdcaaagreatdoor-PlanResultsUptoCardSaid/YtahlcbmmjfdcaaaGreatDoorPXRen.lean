/- PX, part 11: the same objects told of in another heap: a callee's, a caller's, one that is packed. -/
import Derived.Test.YtahlcbmmjfdcaaaGreatDoorPXOps7
set_option linter.all false
namespace Go.Proofs.YtahlcbmmjfdcaaaGreatDoor.PX
set_option linter.unusedVariables false
set_option linter.unusedSimpArgs false
section
variable {P : Program} {E : Env} {w : World} {h h' : List Obj} {γ γ' : Gam} {ρ ν : Nat → Nat}

theorem DRel.flat {N N' : Nat → Prop} {x : D} {v : Value} (hf : flatL (.d x) = true) (hr : DRel w N x v) : DRel w N' x v := by
  cases hr with
  | undef h => exact .undef h
  | int => exact .int
  | bool => exact .bool
  | str => exact .str
  | nilptr => exact .nilptr
  | nilmap => exact .nilmap
  | nilfn => exact .nilfn
  | niliface => exact .niliface
  | sl us => cases hf
/-- What is read only stays so: or there is no data that holds memory. -/
def Carry (w : World) (h : List Obj) (γ : Gam) (h' : List Obj) (γ' : Gam) (flat : Bool) : Prop := flat = true ∨ ∀ b, Ro w h γ b → Ro w h' γ' b
theorem Carry.d {x : D} {v : Value} {fl : Bool} (c : Carry w h γ h' γ' fl) (hf : fl = true → flatL (.d x) = true) (hr : DRel w (Ro w h γ) x v) : DRel w (Ro w h' γ') x v := by
  rcases c with c | c
  · exact hr.flat (hf c)
  · exact hr.mono fun b hb => ⟨c b hb, fun _ => rfl⟩
/-- An object's place in the other heap. -/
def Moved (h : List Obj) (γ : Gam) (h' : List Obj) (γ' : Gam) (ρ ν : Nat → Nat) (id : Nat) : Prop := id < h.length ∧ γ' (ρ id) = γ id ∧ h'[ρ id]? = some (renO h ρ ν id (h.getD id .dead))
theorem getD_of {id : Nat} {o : Obj} (ho : h[id]? = some o) : h.getD id .dead = o := by rw [List.getD_eq_getElem?_getD, ho]; rfl
theorem getD_lt {id : Nat} (hlt : id < h.length) : h[id]? = some (h.getD id .dead) := by rw [List.getD_eq_getElem?_getD, List.getElem?_eq_getElem hlt]; rfl
theorem cur_row {id ver : Nat} (hc : cur h id ver = true) : ∃ sz es, h.getD id .dead = .row sz es ver := by
  unfold cur at hc
  split at hc
  · rename_i sz es v ho
    have := Nat.eq_of_beq_eq_true hc
    subst this
    exact ⟨sz, es, ho⟩
  · cases hc
theorem fixd_ren {id : Nat} {o : Obj} : fixd (renO h ρ ν id o) = fixd o := by cases o <;> rfl
theorem dead_ren {id : Nat} {o : Obj} : (renO h ρ ν id o).isDead = o.isDead := by cases o <;> rfl
theorem PtrV.ren {id off : Nat} {v : Value} (m : Moved h γ h' γ' ρ ν id) (hp : PtrV h γ id off v) : PtrV h' γ' (ρ id) off v := by
  obtain ⟨hlt, hg, ho⟩ := m
  refine ⟨(List.getElem?_eq_some_iff.1 ho).1, fun o ho2 hf => ?_⟩
  obtain rfl := Option.some.inj (ho.symm.trans ho2)
  rw [fixd_ren] at hf
  obtain ⟨b, p, h1, h2⟩ := hp.2 _ (getD_lt hlt) hf
  exact ⟨b, p, hg.trans h1, h2⟩
theorem LRel.ren {fl : Bool} (c : Carry w h γ h' γ' fl) {x : Lf} {u : Value} (hs : ∀ i ∈ refsL x, Moved h γ h' γ' ρ ν i) (hf : fl = true → flatL x = true) (hr : LRel w h γ x u) : LRel w h' γ' (renL h ρ ν x) u := by
  have rowV : ∀ {id sz total off len v}, γ' (ρ id) = γ id → RowV w γ id sz total off len v → RowV w γ' (ρ id) sz total off len v := by
    intro id sz total off len v hg hv
    unfold RowV at *
    rw [hg]; exact hv
  cases x with
  | d x => exact DRel.weakD (c.d hf hr)
  | ptr id off => exact ⟨hr.1, hr.2.ren (hs id (by simp [refsL]))⟩
  | rptr id ver i off =>
    simp only [renL]
    cases hc : cur h id ver with
    | false => exact .undef hr.1
    | true =>
      obtain ⟨sz, es, ho⟩ := cur_row hc
      obtain ⟨hlt, hg, hob⟩ := hs id (by simp [refsL])
      have ho' := obj_of hlt ho
      rw [ho] at hob
      refine ⟨hr.1, (List.getElem?_eq_some_iff.1 hob).1, fun sz' es' k ho2 => ?_⟩
      rw [hob] at ho2
      simp [renO] at ho2
      obtain ⟨rfl, rfl, rfl⟩ := ho2
      obtain ⟨b, p, h1, h2⟩ := (hr.2.2 _ _ _ ho').2 rfl
      exact ⟨Nat.le_refl _, fun _ => ⟨b, p, hg.trans h1, h2⟩⟩
  | rop l off =>
    obtain ⟨b, o, us, rfl, h1, h2⟩ := hr
    rcases c with c | c
    · cases hf c
    · exact ⟨b, o, us, rfl, fun hne => ⟨c b (h1 hne).1, (h1 hne).2⟩, h2.mono fun x y _ hxy => hxy.mono fun b hb => ⟨c b hb, fun _ => rfl⟩⟩
  | rw id ver =>
    simp only [renL]
    cases hc : cur h id ver with
    | false => exact .undef hr.1
    | true =>
      obtain ⟨sz, es, ho⟩ := cur_row hc
      obtain ⟨hlt, hg, hob⟩ := hs id (by simp [refsL])
      have ho' := obj_of hlt ho
      rw [ho] at hob
      refine ⟨hr.1, (List.getElem?_eq_some_iff.1 hob).1, fun sz' es' k ho2 => ?_⟩
      rw [hob] at ho2
      simp [renO] at ho2
      obtain ⟨rfl, rfl, rfl⟩ := ho2
      exact ⟨Nat.le_refl _, fun _ => rowV hg ((hr.2.2 _ _ _ ho').2 rfl)⟩
  | rws id ver off len =>
    simp only [renL]
    cases hc : cur h id ver with
    | false => exact .undef hr.1
    | true =>
      obtain ⟨sz, es, ho⟩ := cur_row hc
      obtain ⟨hlt, hg, hob⟩ := hs id (by simp [refsL])
      have ho' := obj_of hlt ho
      rw [ho] at hob
      refine ⟨hr.1, (List.getElem?_eq_some_iff.1 hob).1, fun sz' es' k ho2 => ?_⟩
      rw [hob] at ho2
      simp [renO] at ho2
      obtain ⟨rfl, rfl, rfl⟩ := ho2
      exact ⟨Nat.le_refl _, fun _ => rowV hg ((hr.2.2 _ _ _ ho').2 rfl)⟩
  | map id =>
    obtain ⟨hlt, hg, hob⟩ := hs id (by simp [refsL])
    refine ⟨hr.1, (List.getElem?_eq_some_iff.1 hob).1, fun ag kk es ho2 => ?_⟩
    have ho3 := Option.some.inj (hob.symm.trans ho2)
    have hx : h.getD id .dead = .map ag kk es := by
      cases hx : h.getD id .dead <;> rw [hx] at ho3 <;> first | exact ho3 | cases ho3
    obtain ⟨b, p, h1, h2⟩ := hr.2.2 _ _ _ (obj_of hlt hx)
    exact ⟨b, p, hg.trans h1, h2⟩
  | fn g caps =>
    obtain ⟨vs, rfl, h1, hp⟩ := hr
    exact ⟨vs, rfl, h1, Pt.map_left _ (hp.mono fun x y hx hxy => hxy.ren (hs x hx))⟩
theorem TRel.ren {fl : Bool} (c : Carry w h γ h' γ' fl) {x : TV} {u : Value} (hs : ∀ i ∈ refsT x, Moved h γ h' γ' ρ ν i) (hf : fl = true → flatT x = true) (hr : TRel w h γ x u) : TRel w h' γ' (renT h ρ ν x) u := by
  cases x with
  | lf x => exact LRel.ren c hs hf hr
  | agg l =>
    obtain ⟨cs, rfl, hp⟩ := hr
    refine ⟨cs, rfl, Pt.map_left _ (hp.mono fun x y hx hxy => hxy.ren c (fun i hi => hs i (List.mem_flatMap.2 ⟨x, hx, hi⟩)) fun e => ?_)⟩
    exact List.all_eq_true.1 (hf e) x hx
theorem ORel.ren {fl : Bool} (c : Carry w h γ h' γ' fl) {id : Nat} {o : Obj} (ho : h[id]? = some o) (hs : ∀ i ∈ refsO o, Moved h γ h' γ' ρ ν i) (hf : fl = true → flatO o = true) (hg : γ' (ρ id) = γ id) (hr : ORel w h γ id o) : ORel w h' γ' (ρ id) (renO h ρ ν id o) := by
  cases o with
  | dead => trivial
  | cells l =>
    obtain ⟨b, cs, t, h1, h2, h3⟩ := hr
    exact ⟨b, cs, t, hg.trans h1, h2, Pt.map_left _ (h3.mono fun x y hx hxy => hxy.ren c (fun i hi => hs i (List.mem_flatMap.2 ⟨x, hx, hi⟩)) fun e => List.all_eq_true.1 (hf e) x hx)⟩
  | arr l =>
    obtain ⟨b, cs, t, h1, h2, h3⟩ := hr
    exact ⟨b, cs, t, hg.trans h1, h2, h3.mono fun x y hx hxy => c.d (fun e => List.all_eq_true.1 (hf e) x hx) hxy⟩
  | row sz es v =>
    obtain ⟨hU, hr⟩ := hr
    refine ⟨hU, ?_⟩
    rw [hg]
    cases hgi : γ id with
    | none => rw [hgi] at hr; exact hr
    | some bp =>
      obtain ⟨b, p⟩ := bp
      rw [hgi] at hr
      obtain ⟨cs, t, h2, h3, h4⟩ := hr
      refine ⟨cs, t, h2, h3, h4.mono fun x y hx hxy => c.d (fun e => ?_) hxy⟩
      obtain ⟨r, hr1, hr2⟩ := List.mem_flatten.1 hx
      exact List.all_eq_true.1 (List.all_eq_true.1 (hf e) r hr1) x hr2
  | map ag kk es =>
    obtain ⟨b, ents, ck, h1, h2, h3, h4⟩ := hr
    rcases c with c | c
    · cases hf c
    · exact ⟨b, ents, ck, hg.trans h1, h2, h3, h4.mono fun x y _ hxy => ⟨hxy.1, MV.fr' (fun b hb => ⟨c b hb, fun _ => rfl⟩) hxy.2⟩⟩
  | siter s pos =>
    obtain ⟨b, h1, h2⟩ := hr
    exact ⟨b, hg.trans h1, h2⟩

/-! ### Lists of ids -/
theorem mem_inv {l : List Nat} {i : Nat} : mem l i = true ↔ i ∈ l := by simp [mem]
theorem nodup_inv : ∀ {l : List Nat}, nodupB l = true → l.Nodup
  | [], _ => .nil
  | x :: l, hx => by
    simp only [nodupB, Bool.and_eq_true, Bool.not_eq_true'] at hx
    refine List.nodup_cons.2 ⟨fun hm => ?_, nodup_inv hx.2⟩
    rw [mem_inv.2 hm] at hx
    exact absurd hx.1 (by simp)
structure Closed (h : List Obj) (roots ids : List Nat) : Prop where
  nodup : ids.Nodup
  lt : ∀ i ∈ ids, i < h.length
  refs : ∀ i ∈ ids, ∀ j ∈ refsO (h.getD i .dead), j ∈ ids
  roots : ∀ i ∈ roots, i ∈ ids
theorem closed_inv {roots ids : List Nat} (hc : closed h roots ids = true) : Closed h roots ids := by
  simp only [closed, Bool.and_eq_true, List.all_eq_true, Nat.blt_eq] at hc
  exact ⟨nodup_inv hc.1.1, fun i hi => (hc.1.2 i hi).1, fun i hi j hj => mem_inv.1 ((hc.1.2 i hi).2 j hj), fun i hi => mem_inv.1 (hc.2 i hi)⟩
theorem firsts_inv {m : Nat} {ids : List Nat} (hf : firsts m ids = true) {i : Nat} (hi : i < m) : ids[i]? = some i := by
  simp only [firsts, List.all_eq_true] at hf
  have := Nat.eq_of_beq_eq_true (hf i (List.mem_range.2 hi))
  rw [List.getD_eq_getElem?_getD] at this
  cases hx : ids[i]? with
  | none => rw [hx] at this; simp at this; omega
  | some y => rw [hx] at this; simp at this; rw [this]
theorem idx_at : ∀ {l : List Nat} {i : Nat}, i ∈ l → l[idx i l]? = some i
  | y :: l, i, hi => by
    unfold idx
    cases hb : Nat.beq i y with
    | true => have := Nat.eq_of_beq_eq_true hb; subst this; simp
    | false =>
      have hne : i ≠ y := fun e => by subst e; simp at hb
      have := idx_at (l := l) ((List.mem_cons.1 hi).resolve_left hne)
      simpa using this
theorem idx_of {l : List Nat} (hn : l.Nodup) {k i : Nat} (hk : l[k]? = some i) : idx i l = k := by
  have h1 := idx_at (List.mem_of_getElem? hk)
  obtain ⟨a1, a2⟩ := List.getElem?_eq_some_iff.1 hk
  obtain ⟨b1, b2⟩ := List.getElem?_eq_some_iff.1 h1
  exact (List.getElem_inj hn).1 (b2.trans a2.symm)
theorem idx_first {m : Nat} {ids : List Nat} (hn : ids.Nodup) (hf : firsts m ids = true) {i : Nat} (hi : i < m) : idx i ids = i := idx_of hn (firsts_inv hf hi)
theorem pack_len {ids : List Nat} : (packO h ν ids).length = ids.length := by simp [packO, packR]
theorem pack_at {ids : List Nat} {k i : Nat} (hk : ids[k]? = some i) : (packO h ν ids)[k]? = some (renO h (idx · ids) ν i (h.getD i .dead)) := by
  simp [packO, packR, hk]
theorem pack_inv {ids : List Nat} {k : Nat} {o : Obj} (hk : (packO h ν ids)[k]? = some o) : ∃ i, ids[k]? = some i ∧ o = renO h (idx · ids) ν i (h.getD i .dead) := by
  simp only [packO, packR, List.getElem?_map] at hk
  obtain ⟨i, hi, rfl⟩ := Option.map_eq_some_iff.1 hk
  exact ⟨i, hi, rfl⟩
/-- Where the packed objects lie; the blocks of those that were left out may be anybody's. -/
def gPack (γ : Gam) (ids : List Nat) (X : Nat → Prop) : Gam := ⟨fun k => γ (ids.getD k 0), X⟩
theorem moved_pack {ids roots : List Nat} (C : Closed h roots ids) {X : Nat → Prop} {i : Nat} (hi : i ∈ ids) : Moved h γ (packO h ν ids) (gPack γ ids X) (idx · ids) ν i := by
  have hx := idx_at hi
  refine ⟨C.lt i hi, ?_, pack_at hx⟩
  show γ (ids.getD (idx i ids) 0) = γ i
  rw [List.getD_eq_getElem?_getD, hx]; rfl
theorem wr_pack {ids roots : List Nat} (C : Closed h roots ids) {X : Nat → Prop} {b : Nat} (hb : Wr (packO h ν ids) (gPack γ ids X) b) : ∃ i o p, i ∈ ids ∧ h[i]? = some o ∧ o.isDead = false ∧ γ i = some (b, p) := by
  obtain ⟨k, o, p, hk, hd, hg⟩ := hb
  obtain ⟨i, hi, rfl⟩ := pack_inv hk
  rw [dead_ren] at hd
  have hm := List.mem_of_getElem? hi
  refine ⟨i, _, p, hm, ?_, hd, ?_⟩
  · exact getD_lt (C.lt i hm)
  · have : γ (ids.getD k 0) = some (b, p) := hg
    rwa [List.getD_eq_getElem?_getD, hi] at this
/-- X: what the packed heap must leave alone: at most our objects that were left out, and what was so before. -/
theorem hrel_pack (H : HRel w h γ) {ids roots : List Nat} (C : Closed h roots ids) {X : Nat → Prop} (hX1 : ∀ b, γ.X b → X b) (hX2 : ∀ b, X b → γ.X b ∨ ∃ j o p, j ∉ ids ∧ h[j]? = some o ∧ o.isDead = false ∧ γ j = some (b, p)) :
    HRel w (packO h ν ids) (gPack γ ids X) ∧ Carry w h γ (packO h ν ids) (gPack γ ids X) false := by
  have hc : Carry w h γ (packO h ν ids) (gPack γ ids X) false := .inr fun b hb => ⟨hb.1, fun hw => by
    obtain ⟨i, o, p, _, ho, hd, hg⟩ := wr_pack C hw
    exact hb.2.1 ⟨i, o, p, ho, hd, hg⟩, fun hx => by
      rcases hX2 b hx with h1 | ⟨j, o, p, _, ho, hd, hg⟩
      · exact hb.2.2 h1
      · exact hb.2.1 ⟨j, o, p, ho, hd, hg⟩⟩
  refine ⟨⟨fun k o hk => ?_, ?_, fun b hx => ?_, fun b hw hx => ?_⟩, hc⟩
  · obtain ⟨i, hi, rfl⟩ := pack_inv hk
    have hm := List.mem_of_getElem? hi
    have ho : h[i]? = some (h.getD i .dead) := getD_lt (C.lt i hm)
    have := (H.obj i _ ho).ren (ν := ν) hc ho (fun j hj => moved_pack (γ := γ) (X := X) C (C.refs i hm j hj)) (fun e => by cases e) (moved_pack (ν := ν) C hm).2.1
    rwa [idx_of C.nodup hi] at this
  · intro k l ok ol b p q hk hdk hl hdl hgk hgl
    obtain ⟨i, hi, rfl⟩ := pack_inv hk
    obtain ⟨j, hj, rfl⟩ := pack_inv hl
    rw [dead_ren] at hdk hdl
    have hmi := List.mem_of_getElem? hi
    have hmj := List.mem_of_getElem? hj
    have e1 : γ i = some (b, p) := by
      have : γ (ids.getD k 0) = some (b, p) := hgk
      rwa [List.getD_eq_getElem?_getD, hi] at this
    have e2 : γ j = some (b, q) := by
      have : γ (ids.getD l 0) = some (b, q) := hgl
      rwa [List.getD_eq_getElem?_getD, hj] at this
    have := H.inj i j _ _ b p q (getD_lt (C.lt i hmi)) hdk (getD_lt (C.lt j hmj)) hdl e1 e2
    subst this
    rw [← idx_of C.nodup hi, idx_of C.nodup hj]
  · rcases hX2 b hx with h1 | ⟨j, o, p, _, ho, hd, hg⟩
    · exact H.xlt b h1
    · exact H.lt' ho hd hg
  · obtain ⟨i, o, p, hm, ho, hd, hg⟩ := wr_pack C hw
    rcases hX2 b hx with h1 | ⟨j, o', q, hm', ho', hd', hg'⟩
    · exact H.xno b ⟨i, o, p, ho, hd, hg⟩ h1
    · have := H.inj i j _ _ b p q ho hd ho' hd' hg hg'
      subst this
      exact hm' hm
end
end Go.Proofs.YtahlcbmmjfdcaaaGreatDoor.PX
