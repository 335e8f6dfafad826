/- PX, part 20: a law's row: what the arguments read as is data of PX; a law that answers true leaves them as they read. -/
import Derived.Test.YtahlcbmmjfdcaaaGreatDoorPXPrn
import Derived.ReadAgain
import Derived.RowKit3
import Derived.ProofKit
import Derived.OpenShut
set_option linter.all false
namespace Go.Proofs.YtahlcbmmjfdcaaaGreatDoor.PX
open Go.ChangeShapes Go.WideShapes Go.ChangeAt Go.RowKit
set_option linter.unusedVariables false
section
variable {H : Type} {enc : TypeId × Value → H} {P : Program} {W w' : World}
/-- Nothing that was there has turned. -/
def Kept (W w' : World) : Prop := w'.os = W.os ∧ w'.output = W.output ∧ W.heap.size ≤ w'.heap.size ∧ ∀ b, b < W.heap.size → w'.heap[b]? = W.heap[b]?
theorem kept_step {h' : List Obj} {γ γ' : Gam} (st : Step W [] γ w' h' γ') : Kept W w' :=
  ⟨st.fr.os, st.fr.output, st.fr.size, fun b hb => st.fr.block b hb fun ⟨i, o, p, hi, _⟩ => by simp at hi⟩
theorem Kept.but (k : Kept W w') (may : MemPlace → Prop) : W.keptBut w' may := by
  refine ⟨k.1, k.2.1, fun i hi => ?_⟩
  rw [k.2.2.2 i hi]
  cases hx : W.heap[i]? with
  | none => rfl
  | some o => cases o <;> first | exact ⟨rfl, rfl, rfl, fun _ _ => rfl⟩ | exact .inr ⟨rfl, rfl⟩ | rfl
theorem Kept.frozen (k : Kept W w') {a : Addr} (ha : a.block < W.heap.size) : w'.frozen? a = W.frozen? a := by unfold World.frozen?; rw [k.2.2.2 _ ha]
theorem Kept.same (k : Kept W w') {p : MemPlace} (hp : p.block < W.heap.size) : W.sameAt w' p := by
  cases p with
  | cell b off => exact World.cell?_of_block (w := W) (a := ⟨b, off, none⟩) (k.2.2.2 b hp)
  | map b => exact k.2.2.2 b hp
theorem trodAll_carry {base : Nat} {spare : Nat → Bool} {held : Bool} : ∀ {ts : List TypeId} {vs : List Value} {ds : List (DataW H)} {ps : List MemPlace}, DataW.TrodAll enc P W base spare held ts vs ds ps → (∀ p ∈ ps, W.sameAt w' p) → DataW.TrodAll enc P w' base spare held ts vs ds ps
  | [], [], [], _, h, _ => h
  | _ :: _, _ :: _, _ :: _, _, ⟨p, q, ⟨n, h1⟩, h2, e⟩, hs => ⟨p, q, ⟨n, DataW.trod_carry n _ _ _ h1 fun x hx => hs x (by rw [e]; exact List.mem_append_left _ hx)⟩, trodAll_carry h2 fun x hx => hs x (by rw [e]; exact List.mem_append_right _ hx), e⟩
/-- The law answered true. -/
theorem post_true {f : Func} {s : ChangeSpec} {apart fresh handsOn again : Bool} {args : Array Value} {ds gs : List (DataW H)} {before : List MemPlace} (hv : s.vars = []) (hr : (f.resultTypes.toList = [4]) ∧ f.resultTypes.size = 1) (hb : P.underlying 4 = some .bool)
    (K : Kids P (· < P.types.size)) (hz : ∀ t e, t < P.types.size → P.underlying t = some (.slice e) → 0 < P.cellsOf e) (ht : ∀ t ∈ f.params.toList, t < P.types.size)
    (hW : DataW.Whole enc P f.params.toList s.vars apart W args.toList ds gs before) (hs : (s.fn H (ds ++ gs)).results = [.lit (.bool true)] ∧ (s.fn H (ds ++ gs)).args = ds ∧ (s.fn H (ds ++ gs)).vars = []) (k : Kept W w') :
    s.post enc P f apart fresh handsOn again W args (.bool true) w' := by
  have hW0 := hW
  obtain ⟨p, q, hA, hV, rfl, hfz, hn⟩ := hW
  rw [hv] at hV
  obtain ⟨rfl, rfl⟩ := trodVars_none hV
  have hlt : ∀ x ∈ p ++ [], x.block < W.heap.size := fun x hx => hW0.lt x hx
  have hargs : ∀ sp : Nat → Bool, (∀ x ∈ p ++ [], sp x.block = true) → DataW.TrodAll enc P w' 0 sp true f.params.toList args.toList ds p := fun sp hsp =>
    DataW.TrodAll.respare K hz ht (trodAll_carry hA fun x hx => k.same (hlt x (by simpa using hx))) fun x hx => hsp x (by simpa using hx)
  have hres : ∀ (b : Nat) (sp : Nat → Bool) (hd : Bool), DataW.TrodAll enc P w' b sp hd f.resultTypes.toList ((Value.bool true).resultList f.resultTypes.size) [.lit (.bool true)] [] := fun b sp hd => by
    rw [hr.1, hr.2]
    exact ⟨[], [], ⟨1, by simp [DataW.trod, Value.cells, hb]⟩, rfl, rfl⟩
  obtain ⟨h1, h2, h3⟩ := hs
  refine ⟨ds, [], p ++ [], [], p, [], hW0, by rw [h1]; exact hres _ _ _, by rw [h2]; exact hargs _ fun x hx => by simpa using hlt x hx, by rw [h3, hv]; rfl, k.but _, fun _ => ⟨fun j t r hj hrj => ?_, [.lit (.bool true)] ++ ds, [], ([] ++ p) ++ [], ⟨[] ++ p, [], trodAll_append (hargs _ fun _ _ => rfl) (hres _ _ _), by rw [hv]; rfl, rfl, fun b off hp => ?_, fun ha => by simpa using hn ha⟩, fun x hx _ => by simpa using hx⟩⟩
  · rw [← Array.getElem?_toList, hr.1] at hj
    rw [hr.2] at hrj
    cases j with
    | zero =>
      simp [Value.resultList] at hj hrj
      subst hj; subst hrj
      exact okWide_bool_mk hb _
    | succ j => simp at hj
  · have hm : MemPlace.cell b off ∈ p ++ [] := by simpa using hp
    rw [k.frozen (hlt _ hm)]
    exact hfz b off hm

/-! ### Reading flat data -/
/-- How large a reading is. -/
structure Mu (H : Type) where
  μ : DataW H → Nat
  str : ∀ b, μ (.lit (.string b)) = b.length + 1
  pos : ∀ d, 1 ≤ μ d
  agg : ∀ l, μ (.agg l) = (l.map μ).sum + 1
  slice : ∀ l m, (l.map μ).sum + 1 ≤ μ (.slice l m)
def szD : D → Nat | .str s => s.length + 1 | _ => 1
def szL (l : List D) : Nat := (l.map szD).sum
def szE (l : List (List D)) : Nat := (l.map szL).sum
/-- A datum of this zero's kind. -/
def fitD (z x : D) : Prop :=
  match z with
  | .int k _ => ∃ n, x = .int k n ∧ (Lit.int k n).wf = true
  | .bool _ => ∃ b, x = .bool b
  | .str _ => ∃ s, x = .str s
  | _ => False
def fitL : List D → List D → Prop
  | [], [] => True
  | z :: zs, x :: xs => fitD z x ∧ fitL zs xs
  | _, _ => False
def fitE (zs : List D) (es : List (List D)) : Prop := ∀ e ∈ es, fitL zs e
theorem fitL_len : ∀ {zs xs : List D}, fitL zs xs → xs.length = zs.length
  | [], [], _ => rfl
  | z :: zs, x :: xs, h => by simp [fitL_len h.2]
  | [], _ :: _, h => h.elim
  | _ :: _, [], h => h.elim
theorem fitL_app : ∀ {zs zs' xs xs' : List D}, fitL zs xs → fitL zs' xs' → fitL (zs ++ zs') (xs ++ xs')
  | [], _, [], _, _, h => h
  | z :: zs, _, x :: xs, _, h, h' => ⟨h.1, fitL_app h.2 h'⟩
  | [], _, _ :: _, _, h, _ => h.elim
  | _ :: _, _, [], _, h, _ => h.elim
theorem szL_app (a b : List D) : szL (a ++ b) = szL a + szL b := by simp [szL]
theorem szL_pos : ∀ (l : List D), l.length ≤ szL l
  | [] => by simp [szL]
  | x :: l => by
    have h1 := szL_pos l
    have h2 : 1 ≤ szD x := by cases x <;> simp [szD]
    simp only [szL, List.map_cons, List.sum_cons, List.length_cons] at h1 ⊢
    omega
/-- The zero of a type that is flat: whole numbers, bools, strings, structs of such. -/
def fieldsZ (P : Program) (r : TypeId → Option (List D)) : Nat → List Field → Option (List D)
  | _, [] => some []
  | o, f :: fs => (r f.type).bind fun z => if f.offset = o ∧ P.cellsOf f.type = z.length then (fieldsZ P r (o + z.length) fs).map (z ++ ·) else none
def flatZ (P : Program) : Nat → TypeId → Option (List D)
  | 0, _ => none
  | n + 1, t => match P.underlying t with
    | some (.int k) => if P.cellsOf t = 1 then some [.int k 0] else none
    | some .bool => if P.cellsOf t = 1 then some [.bool false] else none
    | some .string => if P.cellsOf t = 1 then some [.str []] else none
    | some (.struct fs) => (fieldsZ P (flatZ P n) 0 fs.toList).bind fun zs => if P.cellsOf t = zs.length then some zs else none
    | _ => none
def Reads (M : Mu H) (zs : List D) (d : DataW H) (cs : List Value) : Prop := ∃ xs, fitL zs xs ∧ szL xs ≤ M.μ d ∧ ∀ (w : World) (N : Nat → Prop), Pt (DRel w N) xs cs
theorem fields_read (M : Mu H) {r : TypeId → Option (List D)} {rd : TypeId → List Value → Option (DataW H × List MemPlace)}
    (ih : ∀ t zs cs d ps, r t = some zs → rd t cs = some (d, ps) → Reads M zs d cs) (cs : List Value) : ∀ (fs : List Field) (o : Nat) (zs : List D) (xs : List (DataW H × List MemPlace)), fieldsZ P r o fs = some zs → xs.length = fs.length →
    (∀ (i : Nat) (f : Field), fs[i]? = some f → rd f.type ((cs.drop f.offset).take (P.cellsOf f.type)) = xs[i]?) → ∃ ys, fitL zs ys ∧ szL ys ≤ ((xs.map (·.1)).map M.μ).sum ∧ ∀ (w : World) (N : Nat → Prop), Pt (DRel w N) ys ((cs.drop o).take zs.length)
  | [], o, zs, xs, hz, _, hx => by
    simp only [fieldsZ, Option.some.injEq] at hz
    subst hz
    exact ⟨[], trivial, by simp [szL], fun w N => by simpa using Pt.nil⟩
  | f :: fs, o, zs, [], hz, hl, hx => by simp at hl
  | f :: fs, o, zs, x :: xs, hz, hl, hx => by
    simp only [fieldsZ, Option.bind_eq_some_iff] at hz
    obtain ⟨z, h1, hz⟩ := hz
    split at hz
    · rename_i hc
      obtain ⟨rfl, hc⟩ := hc
      obtain ⟨zs', h2, rfl⟩ := Option.map_eq_some_iff.1 hz
      obtain ⟨ys, g1, g2, g3⟩ := ih f.type z _ x.1 x.2 h1 (hx 0 f rfl)
      obtain ⟨ys', k1, k2, k3⟩ := fields_read M ih cs fs _ zs' xs h2 (by simpa using hl) fun i g hg => by have := hx (i + 1) g (by simpa using hg); simpa using this
      refine ⟨ys ++ ys', fitL_app g1 k1, ?_, fun w N => ?_⟩
      · rw [szL_app]
        simp only [List.map_cons, List.sum_cons]
        omega
      · have e : (cs.drop f.offset).take (z ++ zs').length = (cs.drop f.offset).take z.length ++ (cs.drop (f.offset + z.length)).take zs'.length := by
          rw [List.length_append, List.take_add, List.drop_drop]
        rw [e, ← hc]
        exact (g3 w N).append (by rw [hc]; exact k3 w N)
    · cases hz
theorem flat_read (M : Mu H) {base : Nat} {spare : Nat → Bool} {held : Bool} : ∀ (n : Nat) (t : TypeId) (zs : List D), flatZ P n t = some zs → ∀ (fuel : Nat) (cs : List Value) (d : DataW H) (ps : List MemPlace), DataW.trod enc P W base spare held fuel t cs = some (d, ps) → Reads M zs d cs
  | 0, t, zs, hz, fuel, cs, d, ps, h => by cases hz
  | n + 1, t, zs, hz, fuel, cs, d, ps, h => by
    simp only [flatZ] at hz
    split at hz
    · rename_i k hu
      split at hz <;> cases hz
      obtain ⟨m, rfl, he, hw⟩ := DataW.trod_int hu h
      cases he
      exact ⟨[.int k m], ⟨⟨m, rfl, hw⟩, trivial⟩, by have := M.pos (.lit (.int k m)); simp [szL, szD]; exact this, fun w N => Pt.cons .int Pt.nil⟩
    · rename_i hu
      split at hz <;> cases hz
      obtain ⟨b, rfl, he⟩ := DataW.trod_bool hu h
      cases he
      exact ⟨[.bool b], ⟨⟨b, rfl⟩, trivial⟩, by have := M.pos (.lit (.bool b)); simp [szL, szD]; exact this, fun w N => Pt.cons .bool Pt.nil⟩
    · rename_i hu
      split at hz <;> cases hz
      obtain ⟨s, rfl, he, _⟩ := DataW.trod_string hu h
      cases he
      refine ⟨[.str s.data.toList], ⟨⟨_, rfl⟩, trivial⟩, by rw [M.str]; simp [szL, szD], fun w N => Pt.cons ?_ Pt.nil⟩
      have := @DRel.str w N s.data.toList
      rwa [str_eta] at this
    · rename_i fs hu
      obtain ⟨zs', h1, hz⟩ := Option.bind_eq_some_iff.1 hz
      split at hz <;> cases hz
      rename_i hc
      obtain ⟨xs, m, rfl, he, hl, hxl, hx⟩ := DataW.trod_struct hu h
      cases he
      obtain ⟨ys, g1, g2, g3⟩ := fields_read M (rd := DataW.trod enc P W base spare held m) (fun t zs cs d ps hz h => flat_read M n t zs hz m cs d ps h) cs fs.toList 0 zs xs h1 (by simpa using hxl) fun i f hf => hx i f (by simpa using hf)
      refine ⟨ys, g1, by rw [M.agg]; omega, fun w N => ?_⟩
      have := g3 w N
      rwa [List.drop_zero, ← hc, ← hl, List.take_length] at this
    · cases hz
theorem addr_add2 (a : Addr) (m n : Nat) : (a.add m).add n = a.add (m + n) := by
  unfold Addr.add
  by_cases h1 : m = 0
  · subst h1; simp
  · by_cases h2 : n = 0
    · subst h2; simp
    · simp [h1, h2, show m + n ≠ 0 by omega, Nat.add_assoc]
theorem cells_at {w : World} {base n : Nat} {a : Addr} {cs : List Value} (h : w.cells? base a n = some cs) : cs.length = n ∧ ∀ (k : Nat) (u : Value), cs[k]? = some u → w.cell? (a.add k) = some u := by
  unfold World.cells? at h
  split at h
  · refine ⟨by simpa using mapM_some_length h, fun k u hk => ?_⟩
    obtain ⟨i, hi, he⟩ := mapM_get h hk
    have hlt : k < n := by have := (List.getElem?_eq_some_iff.1 hi).1; simpa using this
    rw [List.getElem?_range hlt] at hi
    cases hi
    exact he
  · cases h
theorem cell_spot {w : World} {a : Addr} {u : Value} (h : w.cell? a = some u) : a.spot = none ∧ a.block < w.heap.size := by
  unfold World.cell? at h
  split at h
  · rename_i c _ _ hb
    split at h
    · cases h
    · rename_i hs
      exact ⟨by simpa using hs, (Array.getElem?_eq_some_iff.1 hb).1⟩
  · cases h
/-- A slice of flat elements. -/
theorem slice_read (M : Mu H) {base : Nat} {spare : Nat → Bool} {held : Bool} {n : Nat} {t e : TypeId} {zs : List D} (ht : P.underlying t = some (.slice e)) (hz : flatZ P n e = some zs) (hc : P.cellsOf e = zs.length) (hpos : 0 < zs.length)
    {fuel : Nat} {v : Value} {d : DataW H} {ps : List MemPlace} (h : DataW.trod enc P W base spare held fuel t [v] = some (d, ps)) :
    ∃ es, fitE zs es ∧ szE es + 1 ≤ M.μ d ∧ ∀ N : Nat → Prop, (∀ b, b < W.heap.size → N b) → DRel W N (.sl zs.length es .any) v := by
  rcases DataW.trod_slice ht h with ⟨h1, h2⟩ | ⟨a, len, cap, elems, rest, m, rfl, h1, h2, h3, h4, h5, h6, h7, _⟩
  · cases h1; cases h2
    exact ⟨[], fun _ h => (by cases h), by have := M.pos (.nil : DataW H); simp [szE]; exact this, fun N hN => .sl (us := []) (by simp) (fun e => (by cases e)) (fun e => (by cases e)) (fun _ h => (by cases h)) (fun h => absurd rfl h) rfl (by simp)⟩
  · cases h1; cases h2
    have key : ∀ i, i < len → ∃ cs x, W.cells? base (a.add (i * P.cellsOf e)) (P.cellsOf e) = some cs ∧ elems[i]? = some x ∧ DataW.trod enc P W base spare held m e cs = some x := by
      intro i hi
      have hx := h7 i hi
      have hlt : i < elems.length := by omega
      rw [List.getElem?_eq_getElem hlt] at hx
      obtain ⟨cs, hcs, htr⟩ := Option.bind_eq_some_iff.1 hx
      exact ⟨cs, _, hcs, List.getElem?_eq_getElem hlt, htr⟩
    have build : ∀ k, k ≤ len → ∃ (es : List (List D)) (us : List Value), es.length = k ∧ fitE zs es ∧ szE es ≤ (((elems.take k).map (·.1)).map M.μ).sum ∧ (∀ (w : World) (N : Nat → Prop), Pt (DRel w N) es.flatten us) ∧ us.length = k * zs.length ∧ ∀ (j : Nat) (u : Value), us[j]? = some u → W.cell? (a.add j) = some u := by
      intro k
      induction k with
      | zero => intro _; exact ⟨[], [], rfl, fun _ h => (by cases h), by simp [szE], fun w N => Pt.nil, by simp, fun j u h => by simp at h⟩
      | succ k ih =>
        intro hk
        obtain ⟨es, us, g1, g2, g3, g4, g5, g6⟩ := ih (by omega)
        obtain ⟨cs, x, hcs, hx, htr⟩ := key k (by omega)
        obtain ⟨ys, k1, k2, k3⟩ := flat_read M n e zs hz m cs x.1 x.2 htr
        obtain ⟨c1, c2⟩ := cells_at hcs
        refine ⟨es ++ [ys], us ++ cs, by simp [g1], fun y hy => ?_, ?_, fun w N => ?_, by rw [List.length_append, g5, c1, hc, Nat.succ_mul], fun j u hj => ?_⟩
        · rcases List.mem_append.1 hy with h | h
          · exact g2 y h
          · simp at h; subst h; exact k1
        · have hlt : k < elems.length := by omega
          rw [List.getElem?_eq_getElem hlt] at hx
          rw [List.take_add_one, List.getElem?_eq_getElem hlt]
          cases hx
          simp only [szE, List.map_append, List.map_cons, List.map_nil, List.sum_append, List.sum_cons, List.sum_nil, Option.toList_some] at g3 ⊢
          omega
        · rw [List.flatten_append, List.flatten_singleton]
          exact (g4 w N).append (k3 w N)
        · by_cases hlt : j < us.length
          · rw [List.getElem?_append_left hlt] at hj
            exact g6 j u hj
          · rw [List.getElem?_append_right (by omega)] at hj
            have := c2 _ u hj
            rw [addr_add2, show k * P.cellsOf e + (j - us.length) = j by rw [hc]; omega] at this
            exact this
    obtain ⟨es, us, g1, g2, g3, g4, g5, g6⟩ := build len (Nat.le_refl _)
    refine ⟨es, g2, ?_, fun N hN => ?_⟩
    · have := M.slice (elems.map (·.1)) (rest.map (·.1))
      rw [List.take_of_length_le (by omega)] at g3
      omega
    · rw [← g1]
      have hfl : es.flatten.length = us.length := (g4 W N).1
      refine .sl (us := us) (by omega) (fun e => (by cases e)) (fun e => (by cases e)) (fun y hy => fitL_len (g2 y hy)) (fun hne => ?_) hfl (fun k d u hd hu => (g4 W N).2 k d u hd hu)
      have hlen : 0 < len := by rw [← g1]; exact List.length_pos_iff.2 hne
      have hup : 0 < us.length := by rw [g5]; exact Nat.mul_pos hlen hpos
      have h0 := g6 0 _ (List.getElem?_eq_getElem hup)
      obtain ⟨s1, s2⟩ := cell_spot h0
      have ea : a = ⟨a.block, a.off, none⟩ := by
        obtain ⟨b, o, sp⟩ := a
        simp [Addr.add] at s1
        subst s1
        rfl
      refine ⟨a.block, a.off, by rw [← ea], hN _ (by simpa [Addr.add] using s2), fun k u hk => ?_⟩
      have := g6 k u hk
      rw [ea, addr_add] at this
      exact this
/-- An argument that is a slice of flat elements. -/
theorem arg_slice (M : Mu H) {r : Reach} {b0 base : Nat} {spare : Nat → Bool} {held : Bool} {n : Nat} {t e : TypeId} {zs : List D} (ht : P.underlying t = some (.slice e)) (hz : flatZ P n e = some zs) (hc : P.cellsOf e = zs.length) (hpos : 0 < zs.length)
    {v : Value} {d : DataW H} {ps : List MemPlace} (hv : Value.okWide P W r b0 t v) (h : DataW.Trod enc P W base spare held t v d ps) :
    ∃ es, fitE zs es ∧ szE es + 1 ≤ M.μ d ∧ ∀ N : Nat → Prop, (∀ b, b < W.heap.size → N b) → DRel W N (.sl zs.length es .any) v := by
  obtain ⟨a, len, cap, rfl⟩ := okWide_slice ht hv
  obtain ⟨fuel, h⟩ := h
  exact slice_read M ht hz hc hpos (by simpa [Value.cells] using h)
theorem arg_struct (M : Mu H) {r : Reach} {b0 base : Nat} {spare : Nat → Bool} {held : Bool} {n : Nat} {t : TypeId} {fs : Array Field} {zs : List D} (ht : P.underlying t = some (.struct fs)) (hz : flatZ P n t = some zs)
    {v : Value} {d : DataW H} {ps : List MemPlace} (hv : Value.okWide P W r b0 t v) (h : DataW.Trod enc P W base spare held t v d ps) :
    ∃ xs, fitL zs xs ∧ szL xs ≤ M.μ d ∧ ∃ cs : Array Value, v = .agg cs ∧ ∀ N : Nat → Prop, Pt (DRel W N) xs cs.toList := by
  obtain ⟨cs, rfl, _⟩ := okWide_struct ht hv
  obtain ⟨fuel, h⟩ := h
  obtain ⟨xs, h1, h2, h3⟩ := flat_read M n t zs hz fuel _ d ps h
  exact ⟨xs, h1, h2, cs, rfl, h3 W⟩
theorem arg_str (M : Mu H) {r : Reach} {b0 base : Nat} {spare : Nat → Bool} {held : Bool} {t : TypeId} (ht : P.underlying t = some .string)
    {v : Value} {d : DataW H} {ps : List MemPlace} (hv : Value.okWide P W r b0 t v) (h : DataW.Trod enc P W base spare held t v d ps) :
    ∃ s : List UInt8, s.length + 1 ≤ M.μ d ∧ v = .string ⟨s.toArray⟩ := by
  obtain ⟨s, rfl⟩ := okWide_string ht hv
  obtain ⟨fuel, h⟩ := h
  obtain ⟨s', h1, h2, _⟩ := DataW.trod_string ht h
  simp [Value.cells] at h1
  subst h1
  cases h2
  exact ⟨s.data.toList, by rw [M.str]; exact Nat.le_refl _, by rw [str_eta]⟩
theorem arg_int {r : Reach} {b0 base : Nat} {spare : Nat → Bool} {held : Bool} {t : TypeId} {k : IntKind} (ht : P.underlying t = some (.int k))
    {v : Value} {d : DataW H} {ps : List MemPlace} (hv : Value.okWide P W r b0 t v) (h : DataW.Trod enc P W base spare held t v d ps) : ∃ n, v = .int k n ∧ (Lit.int k n).wf = true := by
  obtain ⟨n, h1, _, _, h2⟩ := open_int ht hv h
  exact ⟨n, h1, h2⟩
def γ0 : Gam := ⟨fun _ => none, fun _ => False⟩
theorem hrel0 (W : World) : HRel W [] γ0 := ⟨fun i o h => by simp at h, fun i j oi oj b p q h => by simp at h, fun b h => h.elim, fun b ⟨i, o, p, h, _⟩ => by simp at h⟩
theorem ro0 {b : Nat} (h : b < W.heap.size) : Ro W [] γ0 b := ⟨h, fun ⟨i, o, p, h, _⟩ => by simp at h, fun h => h⟩
/-- From a printed law's entry to the call. -/
theorem law_calls {E : Env} {f : FuncId} {c : Ent} (ok : EntOK P E f c) (hrun : ∀ (args : Array Value) (w : World), (callFunc f args).run P w = .ok (.enter f args) w) {tvs : List TV} {vs : List Value} (hG : GRel E W (Ro W [] γ0)) (hp : Pt (TRel W [] γ0) tvs vs)
    (hc : c tvs [] fun res h => res = [.lf (.d (.bool true))]) : Calls P f vs.toArray W fun e w' => e = .returned (.bool true) ∧ Kept W w' := by
  have := ok tvs [] _ hc W γ0 vs (hrel0 W) hG (by simp) hp
  unfold CalK at this
  rw [hrun] at this
  refine Calls.mono' this fun e w' ⟨v, he, res, h', γ', hr, hv, st⟩ => ?_
  subst hr
  cases hv
  exact ⟨he, kept_step st⟩
end
end Go.Proofs.YtahlcbmmjfdcaaaGreatDoor.PX
