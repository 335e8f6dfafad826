/- PX, part 2: what abstract values and objects are told of in a world; how that lives on when the world moves. -/
import Derived.Test.YtahlcbmmjfdcaaaGreatDoorPXDefs
import Derived.Laws.Tables
import Derived.Laws.CopyRow
import Derived.Laws.Cells
import Derived.Laws.AppendOwn
import Derived.Deep.Draws
set_option linter.all false
namespace Go.Proofs.YtahlcbmmjfdcaaaGreatDoor.PX
set_option linter.unusedVariables false
set_option linter.unusedSimpArgs false

/-! ### Lists side by side -/
def Pt {α β : Type} (R : α → β → Prop) (l : List α) (m : List β) : Prop := l.length = m.length ∧ ∀ (i : Nat) (x : α) (y : β), l[i]? = some x → m[i]? = some y → R x y
theorem Pt.nil {α β : Type} {R : α → β → Prop} : Pt R [] [] := ⟨rfl, by simp⟩
theorem Pt.mono {α β : Type} {R S : α → β → Prop} {l : List α} {m : List β} (h : Pt R l m) (hs : ∀ x y, x ∈ l → R x y → S x y) : Pt S l m :=
  ⟨h.1, fun i x y hx hy => hs x y (List.mem_of_getElem? hx) (h.2 i x y hx hy)⟩
theorem Pt.get {α β : Type} {R : α → β → Prop} {l : List α} {m : List β} (h : Pt R l m) {i : Nat} {x : α} (hx : l[i]? = some x) : ∃ y, m[i]? = some y ∧ R x y := by
  have hi : i < l.length := (List.getElem?_eq_some_iff.1 hx).1
  have hm : i < m.length := h.1 ▸ hi
  exact ⟨m[i], List.getElem?_eq_getElem hm, h.2 i x _ hx (List.getElem?_eq_getElem hm)⟩
theorem Pt.cons {α β : Type} {R : α → β → Prop} {l : List α} {m : List β} {x : α} {y : β} (h : R x y) (t : Pt R l m) : Pt R (x :: l) (y :: m) :=
  ⟨by simp [t.1], fun i a b ha hb => by
    cases i with
    | zero => simp at ha hb; subst ha; subst hb; exact h
    | succ i => simp at ha hb; exact t.2 i a b ha hb⟩
theorem Pt.inv {α β : Type} {R : α → β → Prop} {l : List α} {m : List β} {x : α} (h : Pt R (x :: l) m) : ∃ y n, m = y :: n ∧ R x y ∧ Pt R l n := by
  cases m with
  | nil => simp [Pt] at h
  | cons y n => exact ⟨y, n, rfl, h.2 0 x y rfl rfl, ⟨by simpa using h.1, fun i a b ha hb => h.2 (i + 1) a b (by simpa using ha) (by simpa using hb)⟩⟩
theorem Pt.nil_inv {α β : Type} {R : α → β → Prop} {m : List β} (h : Pt R [] m) : m = [] := List.eq_nil_of_length_eq_zero h.1.symm
theorem Pt.append {α β : Type} {R : α → β → Prop} {l l' : List α} {m m' : List β} (h : Pt R l m) (h' : Pt R l' m') : Pt R (l ++ l') (m ++ m') :=
  ⟨by simp [h.1, h'.1], fun i x y hx hy => by
    rcases Nat.lt_or_ge i l.length with hi | hi
    · rw [List.getElem?_append_left hi] at hx
      rw [List.getElem?_append_left (h.1 ▸ hi)] at hy
      exact h.2 i x y hx hy
    · rw [List.getElem?_append_right hi] at hx
      rw [List.getElem?_append_right (h.1 ▸ hi), ← h.1] at hy
      exact h'.2 _ x y hx hy⟩
theorem Pt.take {α β : Type} {R : α → β → Prop} {l : List α} {m : List β} (h : Pt R l m) (n : Nat) : Pt R (l.take n) (m.take n) :=
  ⟨by simp [h.1], fun i x y hx hy => by
    rw [List.getElem?_take] at hx hy
    split at hx
    · rename_i hi; rw [if_pos hi] at hy; exact h.2 i x y hx hy
    · simp at hx⟩
theorem Pt.drop {α β : Type} {R : α → β → Prop} {l : List α} {m : List β} (h : Pt R l m) (n : Nat) : Pt R (l.drop n) (m.drop n) :=
  ⟨by simp [h.1], fun i x y hx hy => by
    rw [List.getElem?_drop] at hx hy
    exact h.2 _ x y hx hy⟩
theorem Pt.set {α β : Type} {R : α → β → Prop} {l : List α} {m : List β} (h : Pt R l m) (n : Nat) {a : α} {b : β} (hr : R a b) : Pt R (l.set n a) (m.set n b) :=
  ⟨by simp [h.1], fun i x y hx hy => by
    rw [List.getElem?_set] at hx hy
    split at hx
    · rename_i e
      subst e
      rw [if_pos rfl] at hy
      split at hx
      · rename_i hl
        rw [if_pos (h.1 ▸ hl)] at hy
        simp at hx hy; subst hx; subst hy; exact hr
      · simp at hx
    · rename_i e
      rw [if_neg e] at hy
      exact h.2 i x y hx hy⟩
theorem Pt.map_left {α β γ : Type} {R : α → β → Prop} {l : List γ} {m : List β} (f : γ → α) (h : Pt (fun x y => R (f x) y) l m) : Pt R (l.map f) m :=
  ⟨by simp [h.1], fun i x y hx hy => by
    rw [List.getElem?_map] at hx
    obtain ⟨z, hz, rfl⟩ := Option.map_eq_some_iff.1 hx
    exact h.2 i z y hz hy⟩
theorem Pt.of_map_left {α β γ : Type} {R : α → β → Prop} {l : List γ} {m : List β} {f : γ → α} (h : Pt R (l.map f) m) : Pt (fun x y => R (f x) y) l m :=
  ⟨by simpa using h.1, fun i x y hx hy => h.2 i (f x) y (by simp [hx]) hy⟩
theorem Pt.map_right {α β γ : Type} {R : α → β → Prop} {l : List α} {m : List γ} (f : γ → β) (h : Pt (fun x y => R x (f y)) l m) : Pt R l (m.map f) :=
  ⟨by simp [h.1], fun i x y hx hy => by
    rw [List.getElem?_map] at hy
    obtain ⟨z, hz, rfl⟩ := Option.map_eq_some_iff.1 hy
    exact h.2 i x z hx hz⟩

/-! ### Rows of elements, laid end to end -/
def Uni (sz : Nat) (es : List (List D)) : Prop := ∀ e ∈ es, e.length = sz
theorem Uni.tail {sz : Nat} {e : List D} {es : List (List D)} (h : Uni sz (e :: es)) : Uni sz es := fun x hx => h x (List.mem_cons_of_mem _ hx)
theorem Uni.len {sz : Nat} {es : List (List D)} (h : Uni sz es) : es.flatten.length = es.length * sz := by
  induction es with
  | nil => simp
  | cons e es ih => simp only [List.flatten_cons, List.length_append, List.length_cons, h e (by simp), ih h.tail, Nat.succ_mul]; omega
theorem Uni.get {sz : Nat} {es : List (List D)} (h : Uni sz es) {i : Nat} {e : List D} (he : es[i]? = some e) : ∀ j, j < sz → es.flatten[i * sz + j]? = e[j]? := by
  induction es generalizing i with
  | nil => simp at he
  | cons e0 es ih =>
    intro j hj
    have h0 : e0.length = sz := h e0 (by simp)
    cases i with
    | zero =>
      simp at he; subst he
      rw [List.flatten_cons, Nat.zero_mul, Nat.zero_add, List.getElem?_append_left (by omega)]
    | succ i =>
      simp at he
      rw [List.flatten_cons, List.getElem?_append_right (by rw [h0, Nat.succ_mul]; omega), h0, show (i + 1) * sz + j - sz = i * sz + j by rw [Nat.succ_mul]; omega]
      exact ih h.tail he j hj
theorem Uni.append {sz : Nat} {a b : List (List D)} (h : Uni sz a) (k : Uni sz b) : Uni sz (a ++ b) := fun e he => (List.mem_append.1 he).elim (h e) (k e)
theorem Uni.take {sz : Nat} {a : List (List D)} (h : Uni sz a) (n : Nat) : Uni sz (a.take n) := fun e he => h e (List.mem_of_mem_take he)
theorem Uni.drop {sz : Nat} {a : List (List D)} (h : Uni sz a) (n : Nat) : Uni sz (a.drop n) := fun e he => h e (List.mem_of_mem_drop he)
theorem Uni.set {sz : Nat} {a : List (List D)} (h : Uni sz a) (n : Nat) {x : List D} (hx : x.length = sz) : Uni sz (a.set n x) := fun e he => by
  rcases List.mem_or_eq_of_mem_set he with h' | h'
  · exact h e h'
  · exact h' ▸ hx
theorem Uni.flatten_take {sz : Nat} {es : List (List D)} (h : Uni sz es) (n : Nat) : (es.take n).flatten = es.flatten.take (n * sz) := by
  induction es generalizing n with
  | nil => simp
  | cons e es ih =>
    have h0 : e.length = sz := h e (by simp)
    cases n with
    | zero => simp
    | succ n =>
      simp only [List.take_succ_cons, List.flatten_cons, ih h.tail]
      rw [List.take_append, h0, List.take_of_length_le (l := e) (by rw [h0, Nat.succ_mul]; omega), show (n + 1) * sz - sz = n * sz by rw [Nat.succ_mul]; omega]
theorem Uni.flatten_drop {sz : Nat} {es : List (List D)} (h : Uni sz es) (n : Nat) : (es.drop n).flatten = es.flatten.drop (n * sz) := by
  induction es generalizing n with
  | nil => simp
  | cons e es ih =>
    have h0 : e.length = sz := h e (by simp)
    cases n with
    | zero => simp
    | succ n =>
      simp only [List.drop_succ_cons, List.flatten_cons, ih h.tail]
      rw [List.drop_append, h0, List.drop_of_length_le (l := e) (by rw [h0, Nat.succ_mul]; omega), List.nil_append, show (n + 1) * sz - sz = n * sz by rw [Nat.succ_mul]; omega]

/-! ### Data in a world; N: the blocks that nobody writes -/
inductive DRel (w : World) (N : Nat → Prop) : D → Value → Prop
  | undef {v : Value} : v.oneCell' = true → DRel w N .undef v
  | int {k : IntKind} {n : Int} : DRel w N (.int k n) (.int k n)
  | bool {b : Bool} : DRel w N (.bool b) (.bool b)
  | str {s : List UInt8} : DRel w N (.str s) (.string ⟨s.toArray⟩)
  | nilptr : DRel w N .nilptr (.pointer none)
  | nilmap : DRel w N .nilmap (.map none)
  | nilfn : DRel w N .nilfn .nilFunc
  | niliface : DRel w N .niliface .nilIface
  | sl {sz : Nat} {es : List (List D)} {f : SF} {a : Option Addr} {cap : Nat} (us : List Value) : es.length ≤ cap → (f = .tight → cap = es.length) → (f = .nil → a = none ∧ es = [] ∧ cap = 0) →
      Uni sz es → (es ≠ [] → ∃ b o, a = some ⟨b, o, none⟩ ∧ N b ∧ ∀ (k : Nat) (u : Value), us[k]? = some u → w.cell? ⟨b, o + k, none⟩ = some u) →
      es.flatten.length = us.length → (∀ (k : Nat) (d : D) (u : Value), es.flatten[k]? = some d → us[k]? = some u → DRel w N d u) → DRel w N (.sl sz es f) (.slice a es.length cap)

theorem DRel.one {w : World} {N : Nat → Prop} {x : D} {v : Value} (h : DRel w N x v) : v.oneCell' = true := by cases h <;> first | assumption | rfl
theorem DRel.mono {w w' : World} {N N' : Nat → Prop} (hN : ∀ b, N b → N' b ∧ ∀ o, w'.cell? ⟨b, o, none⟩ = w.cell? ⟨b, o, none⟩) {x : D} {v : Value} (h : DRel w N x v) : DRel w' N' x v := by
  induction h with
  | undef h => exact .undef h
  | int => exact .int
  | bool => exact .bool
  | str => exact .str
  | nilptr => exact .nilptr
  | nilmap => exact .nilmap
  | nilfn => exact .nilfn
  | niliface => exact .niliface
  | sl us h1 h2 h3 h4 h5 h6 h7 ih =>
    refine .sl us h1 h2 h3 h4 (fun hne => ?_) h6 ih
    obtain ⟨b, o, ha, hb, hc⟩ := h5 hne
    exact ⟨b, o, ha, (hN b hb).1, fun k u hk => by rw [(hN b hb).2]; exact hc k u hk⟩

/-! ### Our own blocks -/
/-- Where our objects lie; the blocks that are somebody else's: neither ours nor to be read. -/
structure Gam where
  f : Nat → Option (Nat × Nat)
  X : Nat → Prop
instance : CoeFun Gam (fun _ => Nat → Option (Nat × Nat)) := ⟨Gam.f⟩
def Wr (h : List Obj) (γ : Gam) (b : Nat) : Prop := ∃ i o p, h[i]? = some o ∧ o.isDead = false ∧ γ i = some (b, p)
/-- The blocks that are not ours: nobody writes them while this call runs. -/
def Ro (w : World) (h : List Obj) (γ : Gam) (b : Nat) : Prop := b < w.heap.size ∧ ¬ Wr h γ b ∧ ¬ γ.X b
def Has (w : World) (b n : Nat) : Prop := ∃ cs t, w.heap[b]? = some (.cells cs t (0, 0)) ∧ n ≤ cs.size
/-- A slice value over row id: its element 'off' on, 'len' of them; the row has 'total'. -/
def RowV (w : World) (γ : Gam) (id sz total off len : Nat) (v : Value) : Prop :=
  match γ id with
  | none => off = 0 ∧ len = 0 ∧ ∃ a, v = .slice a 0 0
  | some (b, p) => off + len ≤ total ∧ ∃ a cap, v = .slice a len cap ∧ len ≤ cap ∧ total ≤ off + cap ∧ (0 < cap → a = some ⟨b, p + off * sz, none⟩) ∧ Has w b (p + (off + cap) * sz)
def PtrV (h : List Obj) (γ : Gam) (id off : Nat) (v : Value) : Prop :=
  id < h.length ∧ ∀ o, h[id]? = some o → fixd o = true → ∃ b p, γ id = some (b, p) ∧ v = .pointer (some ⟨b, p + off, none⟩)
def LRel (w : World) (h : List Obj) (γ : Gam) : Lf → Value → Prop
  | .d x, v => DRel w (Ro w h γ) x v
  | .ptr id off, v => v.oneCell' = true ∧ PtrV h γ id off v
  | .rptr id ver i off, v => v.oneCell' = true ∧ id < h.length ∧ ∀ sz es k, h[id]? = some (.row sz es k) → ver ≤ k ∧ (ver = k → ∃ b p, γ id = some (b, p) ∧ v = .pointer (some ⟨b, p + (i * sz + off), none⟩))
  | .rop l off, v => ∃ (b o : Nat) (us : List Value), v = .pointer (some ⟨b, o + off, none⟩) ∧ (l ≠ [] → Ro w h γ b ∧ ∀ (k : Nat) (u : Value), us[k]? = some u → w.cell? ⟨b, o + k, none⟩ = some u) ∧ Pt (DRel w (Ro w h γ)) l us
  | .rw id ver, v => v.oneCell' = true ∧ id < h.length ∧ ∀ sz es k, h[id]? = some (.row sz es k) → ver ≤ k ∧ (ver = k → RowV w γ id sz es.length 0 es.length v)
  | .rws id ver off len, v => v.oneCell' = true ∧ id < h.length ∧ ∀ sz es k, h[id]? = some (.row sz es k) → ver ≤ k ∧ (ver = k → RowV w γ id sz es.length off len v)
  | .map id, v => v.oneCell' = true ∧ id < h.length ∧ ∀ ag kk es, h[id]? = some (.map ag kk es) → ∃ b p, γ id = some (b, p) ∧ v = .map (some b)
  | .fn f caps, v => ∃ vs : Array Value, v = .func (.func f) #[] vs ∧ (∀ x ∈ vs.toList, x.oneCell' = true) ∧ Pt (PtrV h γ · 0 ·) caps vs.toList
theorem LRel.one {w : World} {h : List Obj} {γ : Gam} {x : Lf} {v : Value} (hr : LRel w h γ x v) : v.oneCell' = true := by
  cases x with
  | d x => exact DRel.one hr
  | rop l off => obtain ⟨b, o, us, rfl, _⟩ := hr; rfl
  | fn f caps => obtain ⟨vs, rfl, _⟩ := hr; rfl
  | _ => exact hr.1
def TRel (w : World) (h : List Obj) (γ : Gam) : TV → Value → Prop
  | .lf x, v => LRel w h γ x v
  | .agg l, v => ∃ cs : Array Value, v = .agg cs ∧ Pt (LRel w h γ) l cs.toList
def VRel (w : World) (h : List Obj) (γ : Gam) : AV → Value → Prop
  | .one t, v => TRel w h γ t v
  | .tup l, v => ∃ vs : Array Value, v = .tuple vs ∧ Pt (TRel w h γ) l vs.toList
  | .un, _ => True
def MV (w : World) (N : Nat → Prop) (ag : Bool) (l : List D) (v : Value) : Prop :=
  match ag with
  | true => ∃ cs : Array Value, v = .agg cs ∧ Pt (DRel w N) l cs.toList
  | false => ∃ x, l = [x] ∧ DRel w N x v
def KeyV : D → Value → Prop
  | .str s, v => v = .string ⟨s.toArray⟩
  | .int k n, v => v = .int k n
  | _, _ => False
/-- The kind of a map's keys: strings, or whole numbers. -/
def SameK (kk : Option IntKind) (k : D) : Prop := match kk with | none => ∃ s, k = .str s | some q => ∃ n, k = .int q n
def ORel (w : World) (h : List Obj) (γ : Gam) (i : Nat) : Obj → Prop
  | .dead => True
  | .cells l => ∃ b cs t, γ i = some (b, 0) ∧ w.heap[b]? = some (.cells cs t (0, 0)) ∧ Pt (LRel w h γ) l cs.toList
  | .arr l => ∃ b cs t, γ i = some (b, 0) ∧ w.heap[b]? = some (.cells cs t (0, 0)) ∧ Pt (DRel w (Ro w h γ)) l cs.toList
  | .row sz es _ => Uni sz es ∧ match γ i with
    | none => es = []
    | some (b, p) => ∃ cs t, w.heap[b]? = some (.cells cs t (0, 0)) ∧ p + es.length * sz ≤ cs.size ∧ Pt (DRel w (Ro w h γ)) es.flatten ((cs.toList.drop p).take (es.length * sz))
  | .map ag kk es => ∃ b ents clock, γ i = some (b, 0) ∧ w.heap[b]? = some (.map ents clock) ∧ (∀ p ∈ es, SameK kk p.1) ∧ Pt (fun p (m : MapEntry) => KeyV p.1 m.key ∧ MV w (Ro w h γ) ag p.2 m.val) es ents.toList
  | .siter s pos => ∃ b, γ i = some (b, 0) ∧ w.heap[b]? = some (.stringIter ⟨s.toArray⟩ pos)
def Inj (h : List Obj) (γ : Gam) : Prop := ∀ i j oi oj b p q, h[i]? = some oi → oi.isDead = false → h[j]? = some oj → oj.isDead = false → γ i = some (b, p) → γ j = some (b, q) → i = j
structure HRel (w : World) (h : List Obj) (γ : Gam) : Prop where
  obj : ∀ i o, h[i]? = some o → ORel w h γ i o
  inj : Inj h γ
  xlt : ∀ b, γ.X b → b < w.heap.size
  xno : ∀ b, Wr h γ b → ¬ γ.X b
def SRel (w : World) (h : List Obj) (γ : Gam) (sl : List AV) (tmps : Array Value) : Prop := Pt (VRel w h γ) sl tmps.toList
theorem HRel.lt {w : World} {h : List Obj} {γ : Gam} (H : HRel w h γ) {b : Nat} (hb : Wr h γ b) : b < w.heap.size := by
  obtain ⟨i, o, p, ho, hd, hg⟩ := hb
  have k : ∃ x, w.heap[b]? = some x := by
    have := H.obj i o ho
    cases o with
    | dead => simp [Obj.isDead] at hd
    | cells l => obtain ⟨b', cs, t, h1, h2, _⟩ := this; rw [hg] at h1; simp at h1; exact ⟨_, h1.1 ▸ h2⟩
    | arr l => obtain ⟨b', cs, t, h1, h2, _⟩ := this; rw [hg] at h1; simp at h1; exact ⟨_, h1.1 ▸ h2⟩
    | row sz es v => have h2 := this.2; rw [hg] at h2; obtain ⟨cs, t, h3, _⟩ := h2; exact ⟨_, h3⟩
    | map ag kk es => obtain ⟨b', e, c, h1, h2, _⟩ := this; rw [hg] at h1; simp at h1; exact ⟨_, h1.1 ▸ h2⟩
    | siter s pos => obtain ⟨b', h1, h2⟩ := this; rw [hg] at h1; simp at h1; exact ⟨_, h1.1 ▸ h2⟩
  obtain ⟨x, hx⟩ := k
  exact (Array.getElem?_eq_some_iff.1 hx).1

/-! ### The world moves: what is ours may turn, nothing else does -/
structure Fr (w : World) (h : List Obj) (γ : Gam) (w' : World) (h' : List Obj) (γ' : Gam) : Prop where
  os : w'.os = w.os
  tape : w'.tape = w.tape
  output : w'.output = w.output
  size : w.heap.size ≤ w'.heap.size
  block : ∀ b, b < w.heap.size → ¬ Wr h γ b → w'.heap[b]? = w.heap[b]?
  wr : ∀ b, Wr h' γ' b → Wr h γ b ∨ w.heap.size ≤ b
  X : γ'.X = γ.X
theorem Fr.refl (w : World) (h : List Obj) (γ : Gam) : Fr w h γ w h γ := ⟨rfl, rfl, rfl, Nat.le_refl _, fun _ _ _ => rfl, fun _ hb => .inl hb, rfl⟩
theorem Fr.trans {w1 w2 w3 : World} {h1 h2 h3 : List Obj} {γ1 γ2 γ3 : Gam} (a : Fr w1 h1 γ1 w2 h2 γ2) (b : Fr w2 h2 γ2 w3 h3 γ3) : Fr w1 h1 γ1 w3 h3 γ3 := by
  refine ⟨b.os.trans a.os, b.tape.trans a.tape, b.output.trans a.output, Nat.le_trans a.size b.size, fun k hk hn => ?_, fun k hk => ?_, b.X.trans a.X⟩
  · have n2 : ¬ Wr h2 γ2 k := fun hw => (a.wr k hw).elim hn (fun hx => absurd hk (by omega))
    rw [b.block k (Nat.lt_of_lt_of_le hk a.size) n2, a.block k hk hn]
  · rcases b.wr k hk with h' | h'
    · exact a.wr k h'
    · exact .inr (Nat.le_trans a.size h')
theorem Fr.ro {w w' : World} {h h' : List Obj} {γ γ' : Gam} (f : Fr w h γ w' h' γ') (b : Nat) (hb : Ro w h γ b) : Ro w' h' γ' b ∧ ∀ o, w'.cell? ⟨b, o, none⟩ = w.cell? ⟨b, o, none⟩ :=
  ⟨⟨Nat.lt_of_lt_of_le hb.1 f.size, fun hw => (f.wr b hw).elim hb.2.1 (fun hx => absurd hb.1 (by omega)), f.X ▸ hb.2.2⟩, fun o => World.cell?_of_block (w := w) (a := ⟨b, o, none⟩) (f.block b hb.1 hb.2.1)⟩
theorem DRel.fr {w w' : World} {h h' : List Obj} {γ γ' : Gam} (f : Fr w h γ w' h' γ') {x : D} {v : Value} (hr : DRel w (Ro w h γ) x v) : DRel w' (Ro w' h' γ') x v := hr.mono f.ro

/-- How an object may turn while handles to it live on. -/
def OE (w : World) (γ : Gam) (w' : World) (γ' : Gam) (i : Nat) (o o' : Obj) : Prop :=
  o'.isDead = true ∨
  match o, o' with
  | .cells _, .cells _ | .arr _, .arr _ | .siter _ _, .siter _ _ => γ' i = γ i
  | .map a k _, .map a' k' _ => (a' = a ∧ k' = k) ∧ γ' i = γ i
  | .row sz es v, .row sz' es' v' => sz' = sz ∧ (v < v' ∨ v' = v ∧ γ' i = γ i ∧ es'.length = es.length ∧ ∀ b p, γ i = some (b, p) → ∀ n, Has w b n → Has w' b n)
  | _, _ => False
def Evo (w : World) (h : List Obj) (γ : Gam) (w' : World) (h' : List Obj) (γ' : Gam) : Prop := ∀ i o, h[i]? = some o → ∃ o', h'[i]? = some o' ∧ OE w γ w' γ' i o o'
theorem Evo.len {w w' : World} {h h' : List Obj} {γ γ' : Gam} (e : Evo w h γ w' h' γ') : h.length ≤ h'.length := by
  rcases Nat.eq_zero_or_pos h.length with h0 | h0
  · omega
  · obtain ⟨o', ho', _⟩ := e (h.length - 1) _ (List.getElem?_eq_getElem (show h.length - 1 < h.length by omega))
    have := (List.getElem?_eq_some_iff.1 ho').1
    omega
theorem OE.alive {w w' : World} {γ γ' : Gam} {i : Nat} {o o' : Obj} (e : OE w γ w' γ' i o o') (hd : o'.isDead = false) : o.isDead = false := by
  rcases e with e | e
  · rw [hd] at e; cases e
  · cases o <;> first | rfl | (cases o' <;> exact e.elim)
theorem OE.fix {w w' : World} {γ γ' : Gam} {i : Nat} {o o' : Obj} (e : OE w γ w' γ' i o o') (hd : fixd o' = true) : fixd o = true ∧ γ' i = γ i := by
  rcases e with e | e
  · cases o' <;> simp_all [fixd, Obj.isDead]
  · cases o <;> cases o' <;> first | exact e.elim | (simp [fixd] at hd; done) | exact ⟨rfl, e⟩ | exact ⟨rfl, e.2⟩
theorem PtrV.evo {w w' : World} {h h' : List Obj} {γ γ' : Gam} (e : Evo w h γ w' h' γ') {id off : Nat} {v : Value} (hp : PtrV h γ id off v) : PtrV h' γ' id off v := by
  refine ⟨Nat.lt_of_lt_of_le hp.1 e.len, fun o' ho' hd => ?_⟩
  obtain ⟨o, ho⟩ : ∃ o, h[id]? = some o := ⟨_, List.getElem?_eq_getElem hp.1⟩
  obtain ⟨o2, ho2, hoe⟩ := e id o ho
  rw [ho'] at ho2
  simp at ho2
  subst ho2
  obtain ⟨hf, hg'⟩ := hoe.fix hd
  obtain ⟨b, p, hg, hv⟩ := hp.2 o ho hf
  exact ⟨b, p, hg'.trans hg, hv⟩
theorem LRel.move {w w' : World} {h h' : List Obj} {γ γ' : Gam} (f : Fr w h γ w' h' γ') (e : Evo w h γ w' h' γ') {x : Lf} {v : Value} (hr : LRel w h γ x v) : LRel w' h' γ' x v := by
  have row : ∀ {id sz es k}, id < h.length → h'[id]? = some (.row sz es k) → ∃ es0 k0, h[id]? = some (.row sz es0 k0) ∧ (k0 < k ∨ k = k0 ∧ γ' id = γ id ∧ es.length = es0.length ∧ ∀ b p, γ id = some (b, p) → ∀ n, Has w b n → Has w' b n) := by
    intro id sz es k hlt hk
    obtain ⟨o, ho⟩ : ∃ o, h[id]? = some o := ⟨_, List.getElem?_eq_getElem hlt⟩
    obtain ⟨o2, ho2, hoe⟩ := e id o ho
    rw [hk] at ho2
    simp at ho2
    subst ho2
    rcases hoe with hx | hx
    · cases hx
    · cases o <;> first | exact hx.elim | exact ⟨_, _, hx.1 ▸ ho, hx.2⟩
  have rowV : ∀ {id sz es es0 off len v}, (γ' id = γ id ∧ es.length = es0.length ∧ ∀ b p, γ id = some (b, p) → ∀ n, Has w b n → Has w' b n) → RowV w γ id sz (es0 : List (List D)).length off len v → RowV w' γ' id sz (es : List (List D)).length off len v := by
    intro id sz es es0 off len v ⟨hg, hl, hh⟩ hv
    unfold RowV at *
    rw [hg, hl]
    cases hgi : γ id with
    | none => simpa [hgi] using hv
    | some bp =>
      obtain ⟨b, p⟩ := bp
      simp only [hgi] at hv ⊢
      obtain ⟨h1, a, cap, h2, h3, h4, h5, h6⟩ := hv
      exact ⟨h1, a, cap, h2, h3, h4, h5, hh b p hgi _ h6⟩
  cases x with
  | d x => exact DRel.fr f hr
  | ptr id off => exact ⟨hr.1, hr.2.evo e⟩
  | rptr id ver i off =>
    refine ⟨hr.1, Nat.lt_of_lt_of_le hr.2.1 e.len, fun sz es k hk => ?_⟩
    obtain ⟨es0, k0, h0, hc⟩ := row hr.2.1 hk
    obtain ⟨hle, hv⟩ := hr.2.2 sz es0 k0 h0
    rcases hc with hc | ⟨rfl, hg, hl, hh⟩
    · exact ⟨by omega, fun hx => by omega⟩
    · refine ⟨hle, fun hx => ?_⟩
      obtain ⟨b, p, h1, h2⟩ := hv hx
      exact ⟨b, p, hg.trans h1, h2⟩
  | rop l off =>
    obtain ⟨b, o, us, hv, hb, hp⟩ := hr
    refine ⟨b, o, us, hv, fun hne => ⟨(f.ro b (hb hne).1).1, fun k u hk => ?_⟩, hp.mono fun x y _ hxy => hxy.fr f⟩
    rw [(f.ro b (hb hne).1).2]
    exact (hb hne).2 k u hk
  | rw id ver =>
    refine ⟨hr.1, Nat.lt_of_lt_of_le hr.2.1 e.len, fun sz es k hk => ?_⟩
    obtain ⟨es0, k0, h0, hc⟩ := row hr.2.1 hk
    obtain ⟨hle, hv⟩ := hr.2.2 sz es0 k0 h0
    rcases hc with hc | ⟨rfl, hc⟩
    · exact ⟨by omega, fun hx => by omega⟩
    · refine ⟨hle, fun hx => ?_⟩
      have hq := rowV (es := es) hc (hv hx)
      rw [← hc.2.1] at hq
      exact hq
  | rws id ver off len =>
    refine ⟨hr.1, Nat.lt_of_lt_of_le hr.2.1 e.len, fun sz es k hk => ?_⟩
    obtain ⟨es0, k0, h0, hc⟩ := row hr.2.1 hk
    obtain ⟨hle, hv⟩ := hr.2.2 sz es0 k0 h0
    rcases hc with hc | ⟨rfl, hc⟩
    · exact ⟨by omega, fun hx => by omega⟩
    · exact ⟨hle, fun hx => rowV hc (hv hx)⟩
  | map id =>
    refine ⟨hr.1, Nat.lt_of_lt_of_le hr.2.1 e.len, fun ag kk es hk => ?_⟩
    obtain ⟨o, ho⟩ : ∃ o, h[id]? = some o := ⟨_, List.getElem?_eq_getElem hr.2.1⟩
    obtain ⟨o2, ho2, hoe⟩ := e id o ho
    rw [hk] at ho2
    simp at ho2
    subst ho2
    rcases hoe with hx | hx
    · cases hx
    · cases o <;> first | exact hx.elim | skip
      obtain ⟨⟨rfl, rfl⟩, hx⟩ := hx
      obtain ⟨b, p, hg, hv⟩ := hr.2.2 _ _ _ ho
      exact ⟨b, p, hx.trans hg, hv⟩
  | fn g caps =>
    obtain ⟨vs, rfl, h1, hp⟩ := hr
    exact ⟨vs, rfl, h1, hp.mono fun x y _ hxy => hxy.evo e⟩
theorem TRel.move {w w' : World} {h h' : List Obj} {γ γ' : Gam} (f : Fr w h γ w' h' γ') (e : Evo w h γ w' h' γ') {x : TV} {v : Value} (hr : TRel w h γ x v) : TRel w' h' γ' x v := by
  cases x with
  | lf x => exact LRel.move f e hr
  | agg l => obtain ⟨cs, rfl, hp⟩ := hr; exact ⟨cs, rfl, hp.mono fun x y _ hxy => hxy.move f e⟩
theorem VRel.move {w w' : World} {h h' : List Obj} {γ γ' : Gam} (f : Fr w h γ w' h' γ') (e : Evo w h γ w' h' γ') {x : AV} {v : Value} (hr : VRel w h γ x v) : VRel w' h' γ' x v := by
  cases x with
  | one t => exact TRel.move f e hr
  | tup l => obtain ⟨cs, rfl, hp⟩ := hr; exact ⟨cs, rfl, hp.mono fun x y _ hxy => hxy.move f e⟩
  | un => trivial
theorem Evo.refl (w : World) (h : List Obj) (γ : Gam) : Evo w h γ w h γ := fun i o ho => ⟨o, ho, by
  cases o <;> first | exact .inr rfl | exact .inr ⟨⟨rfl, rfl⟩, rfl⟩ | exact .inl rfl | exact .inr ⟨rfl, .inr ⟨rfl, rfl, rfl, fun _ _ _ _ h => h⟩⟩⟩
theorem OE.trans {w1 w2 w3 : World} {γ1 γ2 γ3 : Gam} {i : Nat} {o1 o2 o3 : Obj} (a : OE w1 γ1 w2 γ2 i o1 o2) (b : OE w2 γ2 w3 γ3 i o2 o3) : OE w1 γ1 w3 γ3 i o1 o3 := by
  rcases b with b | b
  · exact .inl b
  · rcases a with a | a
    · cases o2 <;> first | (simp [Obj.isDead] at a; done) | (cases o3 <;> exact b.elim)
    · cases o1 <;> cases o2 <;> first | exact a.elim | skip
      all_goals cases o3 <;> first | exact b.elim | skip
      · exact .inr (b.trans a)
      · obtain ⟨a1, a2⟩ := a
        obtain ⟨b1, b2⟩ := b
        refine .inr ⟨b1.trans a1, ?_⟩
        rcases a2 with a2 | ⟨rfl, g1, l1, k1⟩
        · rcases b2 with b2 | ⟨rfl, _⟩
          · exact .inl (by omega)
          · exact .inl a2
        · rcases b2 with b2 | ⟨rfl, g2, l2, k2⟩
          · exact .inl b2
          · exact .inr ⟨rfl, g2.trans g1, l2.trans l1, fun b p hg n hn => k2 b p (g1.trans hg) n (k1 b p hg n hn)⟩
      · exact .inr (b.trans a)
      · exact .inr ⟨⟨b.1.1.trans a.1.1, b.1.2.trans a.1.2⟩, b.2.trans a.2⟩
      · exact .inr (b.trans a)
theorem Evo.trans {w1 w2 w3 : World} {h1 h2 h3 : List Obj} {γ1 γ2 γ3 : Gam} (a : Evo w1 h1 γ1 w2 h2 γ2) (b : Evo w2 h2 γ2 w3 h3 γ3) : Evo w1 h1 γ1 w3 h3 γ3 := fun i o ho => by
  obtain ⟨o2, ho2, e2⟩ := a i o ho
  obtain ⟨o3, ho3, e3⟩ := b i o2 ho2
  exact ⟨o3, ho3, e2.trans e3⟩
end Go.Proofs.YtahlcbmmjfdcaaaGreatDoor.PX
