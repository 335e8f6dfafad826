/- PX, part 6: how objects are made, turned, given up; slices of our own that become data. -/
import Derived.Test.YtahlcbmmjfdcaaaGreatDoorPXOps3
set_option linter.all false
namespace Go.Proofs.YtahlcbmmjfdcaaaGreatDoor.PX
set_option linter.unusedVariables false
set_option linter.unusedSimpArgs false

theorem OE.same {w w' : World} {γ γ' : Gam} {i : Nat} {o : Obj} (hg : γ' i = γ i) (hh : ∀ b p, γ i = some (b, p) → ∀ n, Has w b n → Has w' b n) : OE w γ w' γ' i o o := by
  cases o <;> first | exact .inl rfl | exact .inr hg | exact .inr ⟨⟨rfl, rfl⟩, hg⟩ | exact .inr ⟨rfl, .inr ⟨rfl, hg, rfl, hh⟩⟩
theorem ORel.move {w w' : World} {h h' : List Obj} {γ γ' : Gam} (f : Fr w h γ w' h' γ') (e : Evo w h γ w' h' γ') {i : Nat} {o : Obj} (hr : ORel w h γ i o) (hg : γ' i = γ i) (hb : ∀ b p, γ i = some (b, p) → w'.heap[b]? = w.heap[b]?) : ORel w' h' γ' i o := by
  cases o with
  | dead => trivial
  | cells l =>
    obtain ⟨b, cs, t, h1, h2, h3⟩ := hr
    exact ⟨b, cs, t, hg.trans h1, (hb b 0 h1).trans h2, h3.mono fun x y _ hxy => hxy.move f e⟩
  | arr l =>
    obtain ⟨b, cs, t, h1, h2, h3⟩ := hr
    exact ⟨b, cs, t, hg.trans h1, (hb b 0 h1).trans h2, h3.mono fun x y _ hxy => hxy.fr f⟩
  | row sz es v =>
    obtain ⟨hU, hr⟩ := hr
    refine ⟨hU, ?_⟩
    rw [hg]
    cases hgi : γ i with
    | none => rw [hgi] at hr; exact hr
    | some bp =>
      obtain ⟨b, p⟩ := bp
      rw [hgi] at hr
      obtain ⟨cs, t, h2, h3, h4⟩ := hr
      exact ⟨cs, t, (hb b p hgi).trans h2, h3, h4.mono fun x y _ hxy => hxy.fr f⟩
  | map ag kk es =>
    obtain ⟨b, ents, c, h1, h2, h3, h4⟩ := hr
    exact ⟨b, ents, c, hg.trans h1, (hb b 0 h1).trans h2, h3, h4.mono fun x y _ hxy => ⟨hxy.1, MV.fr' f.ro hxy.2⟩⟩
  | siter s pos =>
    obtain ⟨b, h1, h2⟩ := hr
    exact ⟨b, hg.trans h1, (hb b 0 h1).trans h2⟩
/-- The world and the objects have moved, and all still holds. -/
structure Step (w : World) (h : List Obj) (γ : Gam) (w' : World) (h' : List Obj) (γ' : Gam) : Prop where
  rel : HRel w' h' γ'
  fr : Fr w h γ w' h' γ'
  evo : Evo w h γ w' h' γ'
theorem Step.refl {w : World} {h : List Obj} {γ : Gam} (H : HRel w h γ) : Step w h γ w h γ := ⟨H, Fr.refl w h γ, Evo.refl w h γ⟩
theorem Step.trans {w1 w2 w3 : World} {h1 h2 h3 : List Obj} {γ1 γ2 γ3 : Gam} (a : Step w1 h1 γ1 w2 h2 γ2) (b : Step w2 h2 γ2 w3 h3 γ3) : Step w1 h1 γ1 w3 h3 γ3 := ⟨b.rel, a.fr.trans b.fr, a.evo.trans b.evo⟩
def upd (γ : Gam) (i : Nat) (x : Option (Nat × Nat)) : Gam := ⟨fun j => if j = i then x else γ j, γ.X⟩
theorem upd_same {γ : Gam} {i : Nat} {x : Option (Nat × Nat)} : upd γ i x i = x := by simp [upd]
theorem upd_ne {γ : Gam} {i j : Nat} {x : Option (Nat × Nat)} (h : j ≠ i) : upd γ i x j = γ j := by simp [upd, h]
theorem xlt_fr {w w' : World} {h h' : List Obj} {γ γ' : Gam} (H : HRel w h γ) (f : Fr w h γ w' h' γ') : ∀ b, γ'.X b → b < w'.heap.size := fun b hb => Nat.lt_of_lt_of_le (H.xlt b (f.X ▸ hb)) f.size
theorem xno_fr {w w' : World} {h h' : List Obj} {γ γ' : Gam} (H : HRel w h γ) (f : Fr w h γ w' h' γ') : ∀ b, Wr h' γ' b → ¬ γ'.X b := fun b hb hx => by
  have hx := f.X ▸ hx
  rcases f.wr b hb with h1 | h1
  · exact H.xno b h1 hx
  · have := H.xlt b hx; omega
/-- A draw turns nothing. -/
theorem Step.drew {w : World} {h : List Obj} {γ : Gam} (H : HRel w h γ) : Step w h γ w.drew h γ := by
  have f : Fr w h γ w.drew h γ := ⟨rfl, rfl, rfl, Nat.le_refl _, fun _ _ _ => rfl, fun _ hb => .inl hb, rfl⟩
  have e : Evo w h γ w.drew h γ := fun i o ho => ⟨o, ho, OE.same rfl fun _ _ _ _ h => h⟩
  exact ⟨⟨fun i o ho => (H.obj i o ho).move f e rfl fun _ _ _ => rfl, H.inj, H.xlt, H.xno⟩, f, e⟩
theorem has_alloc {w : World} {o : Go.Obj} {b n : Nat} (h : Has w b n) : Has (w.alloc o) b n := by
  obtain ⟨cs, t, hb, hn⟩ := h
  have hlt := (Array.getElem?_eq_some_iff.1 hb).1
  exact ⟨cs, t, by show (w.heap.push o)[b]? = _; rw [Array.getElem?_push, if_neg (by omega)]; exact hb, hn⟩
theorem heap_alloc_lt {w : World} {o : Go.Obj} {b : Nat} (h : b < w.heap.size) : (w.alloc o).heap[b]? = w.heap[b]? := by
  show (w.heap.push o)[b]? = _; rw [Array.getElem?_push, if_neg (by omega)]
theorem heap_alloc_at (w : World) (o : Go.Obj) : (w.alloc o).heap[w.heap.size]? = some o := by
  show (w.heap.push o)[w.heap.size]? = _; simp
theorem HRel.lt' {w : World} {h : List Obj} {γ : Gam} (H : HRel w h γ) {i : Nat} {o : Obj} (ho : h[i]? = some o) (hd : o.isDead = false) {b p : Nat} (hg : γ i = some (b, p)) : b < w.heap.size := H.lt ⟨i, o, p, ho, hd, hg⟩
/-- A new object in a new block (or none: an empty row). -/
theorem Step.new {w : World} {h : List Obj} {γ : Gam} (H : HRel w h γ) (o : Obj) (blk : Go.Obj)
    (ho : ∀ γ', γ' = upd γ h.length (some (w.heap.size, 0)) → Fr w h γ (w.alloc blk) (h ++ [o]) γ' → Evo w h γ (w.alloc blk) (h ++ [o]) γ' → ORel (w.alloc blk) (h ++ [o]) γ' h.length o) :
    Step w h γ (w.alloc blk) (h ++ [o]) (upd γ h.length (some (w.heap.size, 0))) := by
  have old : ∀ {i x}, h[i]? = some x → i ≠ h.length := fun hx e => by
    have := (List.getElem?_eq_some_iff.1 hx).1; omega
  have split : ∀ {i x}, (h ++ [o])[i]? = some x → h[i]? = some x ∨ i = h.length ∧ x = o := by
    intro i x hx
    rcases Nat.lt_or_ge i h.length with hi | hi
    · rw [List.getElem?_append_left hi] at hx; exact .inl hx
    · rw [List.getElem?_append_right hi] at hx
      have : i - h.length = 0 := by
        rcases Nat.eq_zero_or_pos (i - h.length) with h0 | h0
        · exact h0
        · rw [List.getElem?_eq_none (by simp; omega)] at hx; cases hx
      rw [this] at hx
      simp at hx
      exact .inr ⟨by omega, hx.symm⟩
  have f : Fr w h γ (w.alloc blk) (h ++ [o]) (upd γ h.length (some (w.heap.size, 0))) := by
    refine ⟨rfl, rfl, rfl, by simp, fun b hb _ => heap_alloc_lt hb, ?_, rfl⟩
    rintro b ⟨i, x, p, hx, hd, hg⟩
    rcases split hx with hx | ⟨rfl, rfl⟩
    · rw [upd_ne (old hx)] at hg
      exact .inl ⟨i, x, p, hx, hd, hg⟩
    · rw [upd_same] at hg
      simp at hg
      exact .inr (by omega)
  have e : Evo w h γ (w.alloc blk) (h ++ [o]) (upd γ h.length (some (w.heap.size, 0))) := fun i x hx =>
    ⟨x, by rw [List.getElem?_append_left (List.getElem?_eq_some_iff.1 hx).1]; exact hx, OE.same (upd_ne (old hx)) fun _ _ _ _ hh => has_alloc hh⟩
  refine ⟨⟨fun i x hx => ?_, ?_, xlt_fr H f, xno_fr H f⟩, f, e⟩
  · rcases split hx with hx | ⟨rfl, rfl⟩
    · by_cases hd : x.isDead = false
      · exact (H.obj i x hx).move f e (upd_ne (old hx)) fun b p hg => heap_alloc_lt (H.lt' hx hd hg)
      · cases x <;> first | trivial | exact absurd rfl hd
    · exact ho _ rfl f e
  · intro i j oi oj b p q hi hdi hj hdj hgi hgj
    rcases split hi with hi2 | ⟨rfl, rfl⟩ <;> rcases split hj with hj2 | ⟨rfl, rfl⟩
    · rw [upd_ne (old hi2)] at hgi; rw [upd_ne (old hj2)] at hgj
      exact H.inj i j oi oj b p q hi2 hdi hj2 hdj hgi hgj
    · rw [upd_ne (old hi2)] at hgi; rw [upd_same] at hgj
      simp at hgj
      have := H.lt' hi2 hdi hgi
      omega
    · rw [upd_ne (old hj2)] at hgj; rw [upd_same] at hgi
      simp at hgi
      have := H.lt' hj2 hdj hgj
      omega
    · rfl
/-- A new empty row that has no block yet. -/
theorem Step.newNil {w : World} {h : List Obj} {γ : Gam} (H : HRel w h γ) (sz : Nat) : Step w h γ w (h ++ [.row sz [] 0]) (upd γ h.length none) := by
  have old : ∀ {i x}, h[i]? = some x → i ≠ h.length := fun hx e => by
    have := (List.getElem?_eq_some_iff.1 hx).1; omega
  have split : ∀ {i x}, (h ++ [Obj.row sz [] 0])[i]? = some x → h[i]? = some x ∨ i = h.length ∧ x = .row sz [] 0 := by
    intro i x hx
    rcases Nat.lt_or_ge i h.length with hi | hi
    · rw [List.getElem?_append_left hi] at hx; exact .inl hx
    · rw [List.getElem?_append_right hi] at hx
      have : i - h.length = 0 := by
        rcases Nat.eq_zero_or_pos (i - h.length) with h0 | h0
        · exact h0
        · rw [List.getElem?_eq_none (by simp; omega)] at hx; cases hx
      rw [this] at hx
      simp at hx
      exact .inr ⟨by omega, hx.symm⟩
  have f : Fr w h γ w (h ++ [.row sz [] 0]) (upd γ h.length none) := by
    refine ⟨rfl, rfl, rfl, Nat.le_refl _, fun _ _ _ => rfl, ?_, rfl⟩
    rintro b ⟨i, x, p, hx, hd, hg⟩
    rcases split hx with hx | ⟨rfl, rfl⟩
    · rw [upd_ne (old hx)] at hg
      exact .inl ⟨i, x, p, hx, hd, hg⟩
    · rw [upd_same] at hg; cases hg
  have e : Evo w h γ w (h ++ [.row sz [] 0]) (upd γ h.length none) := fun i x hx =>
    ⟨x, by rw [List.getElem?_append_left (List.getElem?_eq_some_iff.1 hx).1]; exact hx, OE.same (upd_ne (old hx)) fun _ _ _ _ hh => hh⟩
  refine ⟨⟨fun i x hx => ?_, ?_, xlt_fr H f, xno_fr H f⟩, f, e⟩
  · rcases split hx with hx | ⟨rfl, rfl⟩
    · exact (H.obj i x hx).move f e (upd_ne (old hx)) fun _ _ _ => rfl
    · exact ⟨fun e he => by simp at he, by rw [upd_same]⟩
  · intro i j oi oj b p q hi hdi hj hdj hgi hgj
    rcases split hi with hi | ⟨rfl, rfl⟩ <;> rcases split hj with hj | ⟨rfl, rfl⟩
    · rw [upd_ne (old hi)] at hgi; rw [upd_ne (old hj)] at hgj
      exact H.inj i j oi oj b p q hi hdi hj hdj hgi hgj
    · rw [upd_same] at hgj; cases hgj
    · rw [upd_same] at hgi; cases hgi
    · rfl
/-- One object turns, in its block or into another one. -/
theorem Step.turn {w : World} {h : List Obj} {γ : Gam} (H : HRel w h γ) {id : Nat} {o : Obj} (hid : h[id]? = some o) (o' : Obj) {w' : World} (g' : Option (Nat × Nat))
    (hos : w'.os = w.os) (htape : w'.tape = w.tape) (hout : w'.output = w.output) (hsz : w.heap.size ≤ w'.heap.size)
    (hblk : ∀ b, b < w.heap.size → (∀ p, γ id = some (b, p) → o.isDead = true) → w'.heap[b]? = w.heap[b]?)
    (hg' : o'.isDead = false → ∀ b p, g' = some (b, p) → w.heap.size ≤ b ∨ (∃ q, γ id = some (b, q)) ∧ o.isDead = false) (hoe : OE w γ w' (upd γ id g') id o o')
    (ho : Fr w h γ w' (h.set id o') (upd γ id g') → Evo w h γ w' (h.set id o') (upd γ id g') → ORel w' (h.set id o') (upd γ id g') id o') :
    Step w h γ w' (h.set id o') (upd γ id g') := by
  have hlt := (List.getElem?_eq_some_iff.1 hid).1
  have split : ∀ {i x}, (h.set id o')[i]? = some x → i = id ∧ x = o' ∨ i ≠ id ∧ h[i]? = some x := by
    intro i x hx
    rw [List.getElem?_set] at hx
    by_cases hi : id = i
    · subst hi; simp [hlt] at hx; exact .inl ⟨rfl, hx.symm⟩
    · rw [if_neg hi] at hx; exact .inr ⟨fun h => hi h.symm, hx⟩
  have other : ∀ {i x b p}, i ≠ id → h[i]? = some x → x.isDead = false → γ i = some (b, p) → ∀ q, γ id = some (b, q) → o.isDead = true := by
    intro i x b p hi hx hd hg q hq
    cases hod : o.isDead with
    | true => rfl
    | false => exact absurd (H.inj i id x o b p q hx hd hid hod hg hq) hi
  have f : Fr w h γ w' (h.set id o') (upd γ id g') := by
    refine ⟨hos, htape, hout, hsz, fun b hb hn => hblk b hb fun p hp => ?_, ?_, ?_⟩
    · cases hod : o.isDead with
      | true => rfl
      | false => exact absurd ⟨id, o, p, hid, hod, hp⟩ hn
    rotate_left
    · rfl
    · rintro b ⟨i, x, p, hx, hd, hg⟩
      rcases split hx with ⟨rfl, rfl⟩ | ⟨hi, hx⟩
      · rw [upd_same] at hg
        rcases hg' hd b p hg with h1 | ⟨⟨q, hq⟩, hod⟩
        · exact .inr h1
        · exact .inl ⟨_, o, q, hid, hod, hq⟩
      · rw [upd_ne hi] at hg
        exact .inl ⟨i, x, p, hx, hd, hg⟩
  have e : Evo w h γ w' (h.set id o') (upd γ id g') := by
    intro i x hx
    by_cases hi : i = id
    · subst hi
      rw [hid] at hx
      simp at hx
      subst hx
      exact ⟨o', by simp [hlt], hoe⟩
    · refine ⟨x, by rw [List.getElem?_set, if_neg (fun h => hi h.symm)]; exact hx, ?_⟩
      by_cases hd : x.isDead = false
      · refine OE.same (upd_ne hi) fun b p hg n hn => ?_
        have hb := H.lt' hx hd hg
        obtain ⟨cs, t, hc, hn⟩ := hn
        exact ⟨cs, t, by rw [hblk b hb fun q hq => other hi hx hd hg q hq]; exact hc, hn⟩
      · exact .inl (by cases hx : x.isDead <;> simp_all)
  refine ⟨⟨fun i x hx => ?_, ?_, xlt_fr H f, xno_fr H f⟩, f, e⟩
  · rcases split hx with ⟨rfl, rfl⟩ | ⟨hi, hx⟩
    · exact ho f e
    · by_cases hd : x.isDead = false
      · exact (H.obj i x hx).move f e (upd_ne hi) fun b p hg => hblk b (H.lt' hx hd hg) fun q hq => other hi hx hd hg q hq
      · cases x <;> first | trivial | exact absurd rfl hd
  · intro i j oi oj b p q hi hdi hj hdj hgi hgj
    rcases split hi with ⟨rfl, rfl⟩ | ⟨hni, hi2⟩ <;> rcases split hj with ⟨rfl, rfl⟩ | ⟨hnj, hj2⟩
    · rfl
    · rw [upd_same] at hgi
      rw [upd_ne hnj] at hgj
      rcases hg' hdi b p hgi with h1 | ⟨⟨q', hq'⟩, hod⟩
      · have := H.lt' hj2 hdj hgj; omega
      · exact H.inj _ _ _ _ _ _ _ hid hod hj2 hdj hq' hgj
    · rw [upd_same] at hgj
      rw [upd_ne hni] at hgi
      rcases hg' hdj b q hgj with h1 | ⟨⟨q', hq'⟩, hod⟩
      · have := H.lt' hi2 hdi hgi; omega
      · exact H.inj _ _ _ _ _ _ _ hi2 hdi hid hod hgi hq'
    · rw [upd_ne hni] at hgi
      rw [upd_ne hnj] at hgj
      exact H.inj i j oi oj b p q hi2 hdi hj2 hdj hgi hgj
theorem upd_self {γ : Gam} {i : Nat} : upd γ i (γ i) = γ := by
  cases γ
  simp only [upd, Gam.mk.injEq, and_true]
  funext j
  split
  · rename_i h; rw [h]
  · rfl
/-- An object is given up. -/
theorem Step.drop {w : World} {h : List Obj} {γ : Gam} (H : HRel w h γ) (id : Nat) : Step w h γ w (h.set id .dead) γ := by
  rcases Nat.lt_or_ge id h.length with hlt | hge
  · have := Step.turn H (List.getElem?_eq_getElem hlt) .dead (w' := w) (γ id) rfl rfl rfl (Nat.le_refl _) (fun _ _ _ => rfl) (fun h => by cases h) (.inl rfl) (fun _ _ => trivial)
    rwa [upd_self] at this
  · rw [List.set_eq_of_length_le hge]
    exact Step.refl H
end Go.Proofs.YtahlcbmmjfdcaaaGreatDoor.PX
