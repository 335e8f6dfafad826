/- PX, part 3: the operations that leave memory alone: what the interpreter says of them, the model does. -/
import Derived.Test.YtahlcbmmjfdcaaaGreatDoorPXRel
import Derived.Laws.Entries
import Derived.Laws.Strings
import Derived.Laws.Concat
import Derived.Laws.Slices
set_option linter.all false
namespace Go.Proofs.YtahlcbmmjfdcaaaGreatDoor.PX
set_option linter.unusedVariables false
set_option linter.unusedSimpArgs false

/-- A datum of this zero's kind. -/
def kindD (z y : D) : Prop := match z with | .int k _ => ∃ n, y = .int k n | .bool _ => ∃ b, y = .bool b | .str _ => ∃ s, y = .str s | _ => True
def kindL : List D → List D → Prop | [], [] => True | z :: zs, y :: ys => kindD z y ∧ kindL zs ys | _, _ => False

/-! ### What is told of the types holds -/
def KOK (P : Program) (t : TypeId) (k : TK) : Prop :=
  match k with
  | .int k => P.underlying t = some (.int k)
  | .bool => P.underlying t = some .bool
  | .str => P.underlying t = some .string
  | .slice e => P.underlying t = some (.slice e)
  | .arr n e => P.underlying t = some (.array n e)
  | .struct fs => ∃ fields : Array Field, P.underlying t = some (.struct fields) ∧ fields.toList.mapM (fun f => (P.info? f.type).map fun i => (f.offset, i.size)) = some fs
  | .ptr e => P.underlying t = some (.pointer e)
  | .map k e => P.underlying t = some (.map k e)
  | .func => ∃ a b c, P.underlying t = some (.func a b c)
  | .iface => ∃ m, P.underlying t = some (.interface m)
  | .other => True
def isAggK : TK → Bool | .struct _ | .arr _ _ => true | _ => false
structure TOK (P : Program) (t : TypeId) (ti : TI) : Prop where
  info : ∃ i, P.info? t = some i ∧ i.size = ti.size ∧ i.bytes = ti.bytes ∧ (ti.zero.length = ti.size → ∃ z, i.zero = some z ∧ ∀ w N, MV w N ti.agg ti.zero z)
  kind : KOK P t ti.k
  agg : ti.k ≠ .other → ti.agg = isAggK ti.k
  other : ti.k = .other → ti.agg = false ∧ (P.underlying t).isSome = true ∧ (isAgg t).run P = fun w => .ok false w
  one : ti.agg = false → ti.size = 1
  eq : ti.eq = true → ∀ (w : World) (N : Nat → Prop) (l m : List D) (cs ds : Array Value) (x y : Operand) (K : Bool → Prop), Pt (DRel w N) l cs.toList → Pt (DRel w N) m ds.toList → kindL ti.zero l → kindL ti.zero m → eqL l m K →
    ∃ b, K b ∧ (do eqGuard .eql t x y (.agg cs) (.agg ds); binOp .eql t (.agg cs) (.agg ds)).run P w = .ok (.bool b) w ∧ (do eqGuard .neq t x y (.agg cs) (.agg ds); binOp .neq t (.agg cs) (.agg ds)).run P w = .ok (.bool (!b)) w
def EOK (P : Program) (E : Env) : Prop := ∀ t ti, E.T t = some ti → TOK P t ti
theorem EOK.kd {P : Program} {E : Env} (H : EOK P E) {t : TypeId} {k : TK} (h : E.kind t = some k) : KOK P t k := by
  unfold Env.kind at h
  split at h
  · rename_i ti hti; simp at h; exact h ▸ (H t ti hti).kind
  · simp at h
def GRel (E : Env) (w : World) (N : Nat → Prop) : Prop := ∀ g l, E.G g = some l → ∃ us : List Value, (l ≠ [] → N g ∧ ∀ (k : Nat) (u : Value), us[k]? = some u → w.cell? ⟨g, k, none⟩ = some u) ∧ Pt (DRel w N) l us
theorem GRel.mono {E : Env} {w w' : World} {N N' : Nat → Prop} (hN : ∀ b, N b → N' b ∧ ∀ o, w'.cell? ⟨b, o, none⟩ = w.cell? ⟨b, o, none⟩) (h : GRel E w N) : GRel E w' N' := fun g l hg => by
  obtain ⟨us, h1, h2⟩ := h g l hg
  exact ⟨us, fun hne => ⟨(hN g (h1 hne).1).1, fun k u hk => by rw [(hN g (h1 hne).1).2]; exact (h1 hne).2 k u hk⟩, h2.mono fun x y _ hxy => hxy.mono hN⟩

/-! ### Operands -/
theorem str_eta (s : ByteArray) : (⟨s.data.toList.toArray⟩ : ByteArray) = s := by cases s; simp
theorem cst_rel (w : World) (h : List Obj) (γ : Gam) (v : Value) : VRel w h γ (cst v) v := by
  unfold cst
  split <;> try exact trivial
  · exact DRel.int
  · exact DRel.bool
  · rename_i s
    have := @DRel.str w (Ro w h γ) s.data.toList
    rw [str_eta] at this
    exact this
  · exact DRel.sl (us := []) (by simp) (by simp) (by simp) (by intro e he; simp at he) (by simp) (by simp) (by simp)
  · exact DRel.nilptr
  · exact DRel.nilmap
  · exact DRel.nilfn
  · exact DRel.niliface
theorem ev_rel {E : Env} {w : World} {h : List Obj} {γ : Gam} {sl : List AV} {a : Act} (hs : SRel w h γ sl a.tmps) (hg : GRel E w (Ro w h γ)) (x : Operand) : VRel w h γ (ev E sl x) (a.eval x) := by
  cases x with
  | tmp t =>
    simp only [ev, Act.eval]
    cases hx : sl[t]? with
    | none => simp [List.getD_eq_getElem?_getD, hx]; trivial
    | some v =>
      obtain ⟨u, hu, hv⟩ := hs.get hx
      simp only [List.getD_eq_getElem?_getD, hx, Option.getD_some]
      rw [Array.getD_eq_getD_getElem?, ← Array.getElem?_toList, hu]
      exact hv
  | const v => exact cst_rel w h γ v
  | global g =>
    simp only [ev, Act.eval]
    cases hl : E.G g with
    | none => trivial
    | some l =>
      obtain ⟨us, h1, h2⟩ := hg g l hl
      exact ⟨g, 0, us, rfl, fun hne => ⟨(h1 hne).1, fun k u hk => by rw [Nat.zero_add]; exact (h1 hne).2 k u hk⟩, h2⟩
  | func f => exact ⟨#[], rfl, by simp, Pt.nil⟩

/-! ### Eliminators, turned round -/
theorem br_inv {b : Bool} {X Y : Prop} (h : br b X Y) : b = true ∧ X ∨ b = false ∧ Y := by cases b <;> simp_all [br]
theorem br_t {b : Bool} {X : Prop} (h : br b X False) : b = true ∧ X := by cases b <;> simp_all [br]
theorem gd_t {b : Bool} {X : Prop} (h : gd b X) : b = true ∧ X := by cases b <;> simp_all [gd]
theorem gd_d {p : Prop} [Decidable p] {X : Prop} (h : gd (decide p) X) : p ∧ X := ⟨of_decide_eq_true (gd_t h).1, (gd_t h).2⟩
theorem nilP_inv {α : Type} {f : SF} {es : List α} {K : Bool → Prop} (h : nilP f es K) : ∀ b, nilOK f es.length b → K b := by
  intro b hb
  cases f with
  | nil => simp only [nilOK] at hb; subst hb; exact h
  | _ =>
    cases es with
    | nil => cases b <;> first | exact h.1 | exact h.2
    | cons e es => simp only [nilOK] at hb; rw [hb (by simp)]; exact h
theorem onD_inv {v : AV} {K : D → Prop} (h : onD v K) : ∃ x, v = .d x ∧ K x := by
  unfold onD at h; split at h
  · exact ⟨_, rfl, h⟩
  · exact h.elim
theorem dK_inv {k : IntKind} {x : D} {K : Int → Prop} (h : dK k x K) : ∃ n, x = .int k n ∧ K n := by
  unfold dK at h; split at h
  · obtain ⟨h1, h2⟩ := br_t h
    rename_i k' n
    have : k' = k := by simpa using h1
    subst this; exact ⟨_, rfl, h2⟩
  · exact h.elim
theorem asK_inv {w : World} {h : List Obj} {γ : Gam} {k : IntKind} {v : AV} {u : Value} {K : Int → Prop} (hk : asK k v K) (hv : VRel w h γ v u) : ∃ n, v = .int k n ∧ u = .int k n ∧ K n := by
  obtain ⟨x, rfl, h1⟩ := onD_inv hk
  obtain ⟨n, rfl, h2⟩ := dK_inv h1
  cases hv; exact ⟨n, rfl, rfl, h2⟩
theorem asI_inv {w : World} {h : List Obj} {γ : Gam} {v : AV} {u : Value} {K : Int → Prop} (hk : asI v K) (hv : VRel w h γ v u) : ∃ k n, v = .int k n ∧ u = .int k n ∧ K n := by
  obtain ⟨x, rfl, h1⟩ := onD_inv hk
  unfold dI at h1; split at h1
  · cases hv; exact ⟨_, _, rfl, rfl, h1⟩
  · exact h1.elim
theorem asB_inv {w : World} {h : List Obj} {γ : Gam} {v : AV} {u : Value} {K : Bool → Prop} (hk : asB v K) (hv : VRel w h γ v u) : ∃ b, v = .bool b ∧ u = .bool b ∧ K b := by
  obtain ⟨x, rfl, h1⟩ := onD_inv hk
  unfold dB at h1; split at h1
  · cases hv; exact ⟨_, rfl, rfl, h1⟩
  · exact h1.elim
theorem asS_inv {w : World} {h : List Obj} {γ : Gam} {v : AV} {u : Value} {K : List UInt8 → Prop} (hk : asS v K) (hv : VRel w h γ v u) : ∃ s, v = .str s ∧ u = .string ⟨s.toArray⟩ ∧ K s := by
  obtain ⟨x, rfl, h1⟩ := onD_inv hk
  unfold dS at h1; split at h1
  · cases hv; exact ⟨_, rfl, rfl, h1⟩
  · exact h1.elim
theorem at_inv {α : Type} {l : List α} {i : Nat} {K : α → Prop} (h : at' l i K) : ∃ x, l[i]? = some x ∧ K x := by
  unfold at' at h; split at h
  · rename_i x hx; exact ⟨x, hx, h⟩
  · exact h.elim
theorem takeP_inv {α : Type} {l : List α} : ∀ {n off : Nat} {K : List α → Prop}, takeP l off n K → ∃ xs, xs.length = n ∧ (∀ j x, xs[j]? = some x → l[off + j]? = some x) ∧ K xs
  | 0, off, K, h => ⟨[], rfl, by simp, h⟩
  | n + 1, off, K, h => by
    obtain ⟨x, hx, h⟩ := at_inv h
    obtain ⟨xs, h1, h2, h3⟩ := takeP_inv h
    refine ⟨x :: xs, by simp [h1], fun j y hy => ?_, h3⟩
    cases j with
    | zero => simp at hy; subst hy; exact hx
    | succ j => simp at hy; have := h2 j y hy; rwa [show off + 1 + j = off + (j + 1) by omega] at this
theorem onT_inv {v : AV} {K : TV → Prop} (h : onT v K) : ∃ t, v = .one t ∧ K t := by
  unfold onT at h; split at h
  · exact ⟨_, rfl, h⟩
  · exact h.elim

theorem DRel.weak {w : World} {N : Nat → Prop} {sz : Nat} {es : List (List D)} {f : SF} {v : Value} (h : DRel w N (.sl sz es f) v) : DRel w N (.sl sz es .any) v := by
  cases h with
  | sl us h1 h2 h3 h4 h5 h6 h7 => exact .sl us h1 (fun e => by cases e) (fun e => by cases e) h4 h5 h6 h7
theorem likeD_inv {z x : D} {K : D → Prop} (hk : likeD z x K) : ∃ y, K y ∧ (∀ (w : World) (N : Nat → Prop) (u : Value), DRel w N x u → DRel w N y u) ∧ kindD z y := by
  unfold likeD at hk
  split at hk
  · obtain ⟨n, rfl, h2⟩ := dK_inv hk; exact ⟨_, h2, fun _ _ _ h => h, n, rfl⟩
  · unfold dB at hk; split at hk
    · exact ⟨_, hk, fun _ _ _ h => h, _, rfl⟩
    · exact hk.elim
  · unfold dS at hk; split at hk
    · exact ⟨_, hk, fun _ _ _ h => h, _, rfl⟩
    · exact hk.elim
  · unfold dSl at hk; split at hk
    · obtain ⟨hb, h2⟩ := br_t hk
      obtain rfl := Nat.eq_of_beq_eq_true hb
      exact ⟨_, h2, fun _ _ _ h => h.weak, trivial⟩
    · exact hk.elim
  · refine ⟨_, hk, fun _ _ _ h => h, ?_⟩
    unfold kindD
    split <;> first | trivial | simp_all
theorem likeL_inv : ∀ {zs xs : List D} {K : List D → Prop}, likeL zs xs K → ∃ ys, K ys ∧ (∀ (w : World) (N : Nat → Prop) (us : List Value), Pt (DRel w N) xs us → Pt (DRel w N) ys us) ∧ kindL zs ys
  | [], [], K, hk => ⟨[], hk, fun _ _ _ h => h, trivial⟩
  | z :: zs, x :: xs, K, hk => by
    obtain ⟨y, hk, h1, h3⟩ := likeD_inv (show likeD z x _ from hk)
    obtain ⟨ys, hk, h2, h4⟩ := likeL_inv hk
    refine ⟨_, hk, fun w N us hp => ?_, h3, h4⟩
    obtain ⟨u, us, rfl, hu, hp⟩ := hp.inv
    exact Pt.cons (h1 w N u hu) (h2 w N us hp)
  | [], _ :: _, K, hk => hk.elim
  | _ :: _, [], K, hk => hk.elim
/-- A computation that leaves the world alone answers so. -/
def PureOK (P : Program) (w : World) (h : List Obj) (γ : Gam) (S : Sem Value) (K : AV → Prop) : Prop := ∃ u v, S.run P w = .ok u w ∧ K v ∧ VRel w h γ v u

section
variable {P : Program} {E : Env} {w : World} {h : List Obj} {γ : Gam}

/-! ### Arithmetic -/
theorem guard_int (op : BinOp) (t : TypeId) (x y : Operand) (k : IntKind) (n : Int) (v : Value) : eqGuard op t x y (.int k n) v = pure () := by cases op <;> rfl
theorem guard_str (op : BinOp) (t : TypeId) (x y : Operand) (s : ByteArray) (v : Value) : eqGuard op t x y (.string s) v = pure () := by cases op <;> rfl
theorem guard_bool (op : BinOp) (t : TypeId) (x y : Operand) (s : Bool) (v : Value) : eqGuard op t x y (.bool s) v = pure () := by cases op <;> rfl
theorem int_ok {op : BinOp} {k : IntKind} {a b : Int} {t : TypeId} {x y : Operand} {K : AV → Prop} (hk : arith op k a b K) :
    PureOK P w h γ (do eqGuard op t x y (.int k a) (.int k b); binOp op t (.int k a) (.int k b)) K := by
  rw [guard_int]
  have e : (a == b) = decide (a = b) := rfl
  cases op with
  | quo => exact ⟨_, _, by simp [binOp, Op.intDiv, (gd_d hk).1], (gd_d hk).2, DRel.int⟩
  | rem => exact ⟨_, _, by simp [binOp, Op.intDiv, (gd_d hk).1], (gd_d hk).2, DRel.int⟩
  | shl => exact hk.elim
  | shr => exact hk.elim
  | eql => exact ⟨_, _, by simp [binOp, Op.intCmp, e], hk, DRel.bool⟩
  | neq => exact ⟨_, _, by simp [binOp, Op.intCmp, bne, e], hk, DRel.bool⟩
  | lss => exact ⟨_, _, by simp [binOp, Op.intCmp], hk, DRel.bool⟩
  | leq => exact ⟨_, _, by simp [binOp, Op.intCmp], hk, DRel.bool⟩
  | gtr => exact ⟨_, _, by simp [binOp, Op.intCmp], hk, DRel.bool⟩
  | geq => exact ⟨_, _, by simp [binOp, Op.intCmp], hk, DRel.bool⟩
  | add => exact ⟨_, _, by simp [binOp, Op.intArith], hk, DRel.int⟩
  | sub => exact ⟨_, _, by simp [binOp, Op.intArith], hk, DRel.int⟩
  | mul => exact ⟨_, _, by simp [binOp, Op.intArith], hk, DRel.int⟩
  | and => exact ⟨_, _, by simp only [Sem.run_bind, Sem.run_pure, Result.andThen_ok, binOp, Op.intBits, ne_eq, not_true_eq_false, if_false], hk, DRel.int⟩
  | or => exact ⟨_, _, by simp only [Sem.run_bind, Sem.run_pure, Result.andThen_ok, binOp, Op.intBits, ne_eq, not_true_eq_false, if_false], hk, DRel.int⟩
  | xor => exact ⟨_, _, by simp only [Sem.run_bind, Sem.run_pure, Result.andThen_ok, binOp, Op.intBits, ne_eq, not_true_eq_false, if_false], hk, DRel.int⟩
  | andNot => exact ⟨_, _, by simp only [Sem.run_bind, Sem.run_pure, Result.andThen_ok, binOp, Op.intBits, ne_eq, not_true_eq_false, if_false], hk, DRel.int⟩
theorem shift_ok {op : BinOp} {k k2 : IntKind} {a b : Int} {t : TypeId} {x y : Operand} {K : AV → Prop} (hk : shiftP op k a b K) :
    PureOK P w h γ (do eqGuard op t x y (.int k a) (.int k2 b); binOp op t (.int k a) (.int k2 b)) K := by
  rw [guard_int]
  cases op <;> first
    | exact hk.elim
    | (obtain ⟨h1, h2⟩ := gd_d hk
       exact ⟨_, _, by simp [binOp, Op.shift, show ¬ b < 0 by omega], h2, DRel.int⟩)
theorem str_ok {op : BinOp} {a b : List UInt8} {t : TypeId} {x y : Operand} {K : AV → Prop} (hk : strP op a b K) :
    PureOK P w h γ (do eqGuard op t x y (.string ⟨a.toArray⟩) (.string ⟨b.toArray⟩); binOp op t (.string ⟨a.toArray⟩) (.string ⟨b.toArray⟩)) K := by
  rw [guard_str]
  have e : (a == b) = decide (a = b) := by by_cases he : a = b <;> simp [he]
  cases op with
  | add =>
    obtain ⟨h1, h2⟩ := gd_d hk
    refine ⟨.string ⟨(a ++ b).toArray⟩, _, ?_, h2, DRel.str⟩
    have e : (⟨a.toArray⟩ ++ ⟨b.toArray⟩ : ByteArray) = ⟨(a ++ b).toArray⟩ := by apply ByteArray.ext; simp [ByteArray.data_append]
    have hs : ¬ (((⟨a.toArray⟩ : ByteArray).size + (⟨b.toArray⟩ : ByteArray).size : Nat) : Int) > IntKind.i64.max := by
      simp [ByteArray.size, IntKind.max, IntKind.signed, IntKind.bits]; omega
    simp only [Sem.run_bind, Sem.run_pure, Result.andThen_ok, binOp, Op.stringOp, if_neg hs, e]
  | eql => exact ⟨_, _, by simp only [Sem.run_bind, Sem.run_pure, Result.andThen_ok, binOp, Op.stringOp, ByteArray.toList_mk, e], hk, DRel.bool⟩
  | neq => exact ⟨_, _, by simp only [Sem.run_bind, Sem.run_pure, Result.andThen_ok, binOp, Op.stringOp, ByteArray.toList_mk, e], hk, DRel.bool⟩
  | lss => exact ⟨_, _, by simp only [Sem.run_bind, Sem.run_pure, Result.andThen_ok, binOp, Op.stringOp, ByteArray.toList_mk, e], hk, DRel.bool⟩
  | leq => exact ⟨_, _, by simp only [Sem.run_bind, Sem.run_pure, Result.andThen_ok, binOp, Op.stringOp, ByteArray.toList_mk, e], hk, DRel.bool⟩
  | gtr => exact ⟨_, _, by simp only [Sem.run_bind, Sem.run_pure, Result.andThen_ok, binOp, Op.stringOp, ByteArray.toList_mk, e], hk, DRel.bool⟩
  | geq => exact ⟨_, _, by simp only [Sem.run_bind, Sem.run_pure, Result.andThen_ok, binOp, Op.stringOp, ByteArray.toList_mk, e], hk, DRel.bool⟩
  | _ => exact hk.elim

/-! ### nil -/
theorem rowV_slice {γ : Gam} {id sz total off len : Nat} {u : Value} (h : RowV w γ id sz total off len u) : ∃ a cap, u = .slice a len cap ∧ (0 < len → a.isSome = true) := by
  unfold RowV at h
  split at h
  · obtain ⟨_, rfl, a, rfl⟩ := h; exact ⟨a, 0, rfl, fun hx => by omega⟩
  · obtain ⟨_, a, cap, rfl, h1, _, h2, _⟩ := h
    exact ⟨a, cap, rfl, fun hx => by rw [h2 (by omega)]; rfl⟩
theorem row_of {id ver : Nat} {u : Value} (hv : LRel w h γ (.rw id ver) u) {sz : Nat} {es : List (List D)} {v : Nat} (ho : h.getD id .dead = .row sz es v) (hb : Nat.beq v ver = true) : h[id]? = some (.row sz es ver) ∧ RowV w γ id sz es.length 0 es.length u := by
  have hlt := hv.2.1
  have e : v = ver := Nat.eq_of_beq_eq_true hb
  subst e
  have ho' : h[id]? = some (.row sz es v) := by
    rw [List.getD_eq_getElem?_getD, List.getElem?_eq_getElem hlt] at ho
    rw [List.getElem?_eq_getElem hlt]; simpa using ho
  exact ⟨ho', (hv.2.2 sz es v ho').2 rfl⟩
theorem rows_of {id ver off len : Nat} {u : Value} (hv : LRel w h γ (.rws id ver off len) u) {sz : Nat} {es : List (List D)} {v : Nat} (ho : h.getD id .dead = .row sz es v) (hb : Nat.beq v ver = true) : h[id]? = some (.row sz es ver) ∧ RowV w γ id sz es.length off len u := by
  have hlt := hv.2.1
  have e : v = ver := Nat.eq_of_beq_eq_true hb
  subst e
  have ho' : h[id]? = some (.row sz es v) := by
    rw [List.getD_eq_getElem?_getD, List.getElem?_eq_getElem hlt] at ho
    rw [List.getElem?_eq_getElem hlt]; simpa using ho
  exact ⟨ho', (hv.2.2 sz es v ho').2 rfl⟩
theorem obj_of {id : Nat} {o : Obj} (hlt : id < h.length) (ho : h.getD id .dead = o) : h[id]? = some o := by
  rw [List.getD_eq_getElem?_getD, List.getElem?_eq_getElem hlt] at ho
  rw [List.getElem?_eq_getElem hlt]; simpa using ho
def isNilV : Value → Bool | .slice a _ _ => a.isNone | .pointer a => a.isNone | .map r => r.isNone | .nilFunc => true | _ => false
/-- A value of a kind that can be held against nil. -/
def HasK : TK → Value → Prop
  | .slice _, v => ∃ a n c, v = .slice a n c
  | .ptr _, v => ∃ a, v = .pointer a
  | .map _ _, v => ∃ r, v = .map r
  | .func, v => v = .nilFunc ∨ ∃ f a c, v = .func f a c
  | _, _ => False
theorem isNil_inv {k : TK} {v : AV} {u : Value} {K : Bool → Prop} (hk : isNil k h v K) (hv : VRel w h γ v u) : HasK k u ∧ K (isNilV u) := by
  unfold isNil at hk
  split at hk
  · unfold dSl at hk
    split at hk
    case h_2 => exact hk.elim
    cases hv with
    | sl us h1 h2 h3 h4 h5 h6 h7 =>
      rename_i es f a cap
      refine ⟨⟨_, _, _, rfl⟩, nilP_inv hk _ ?_⟩
      cases f with
      | nil => simp [nilOK, isNilV, (h3 rfl).1]
      | _ =>
        simp only [nilOK, isNilV]
        intro hlt
        have hne : es ≠ [] := fun e => by simp [e] at hlt
        obtain ⟨b, o, rfl, _⟩ := h5 hne
        rfl
  · split at hk
    · rename_i ho
      obtain ⟨hb, hk⟩ := br_t hk
      obtain ⟨_, hr⟩ := row_of hv ho hb
      obtain ⟨a, cap, rfl, hs⟩ := rowV_slice hr
      refine ⟨⟨_, _, _, rfl⟩, nilP_inv hk _ ?_⟩
      intro hlt
      have := hs hlt
      cases a <;> simp_all [isNilV]
    · exact hk.elim
  · cases hv; exact ⟨⟨_, rfl⟩, hk⟩
  · cases hv; exact ⟨⟨_, rfl⟩, hk⟩
  · cases hv; exact ⟨.inl rfl, hk⟩
  · obtain ⟨hf, hk⟩ := br_t hk
    obtain ⟨b, p, hg, rfl⟩ := hv.2.2 _ (obj_of hv.2.1 rfl) hf
    exact ⟨⟨_, rfl⟩, hk⟩
  · obtain ⟨b, o, us, rfl, _⟩ := hv; exact ⟨⟨_, rfl⟩, hk⟩
  · obtain ⟨vs, rfl, _⟩ := hv; exact ⟨.inr ⟨_, _, _, rfl⟩, hk⟩
  · split at hk
    · rename_i ho
      obtain ⟨b, p, hg, rfl⟩ := hv.2.2 _ _ _ (obj_of hv.2.1 ho)
      exact ⟨⟨_, rfl⟩, hk⟩
    · exact hk.elim
  · exact hk.elim
def nilOf : TK → Value | .slice _ => .slice none 0 0 | .ptr _ => .pointer none | .map _ _ => .map none | _ => .nilFunc
theorem isNilC_inv {k : TK} {v : AV} {u : Value} (hk : isNilC k v = true) (hv : VRel w h γ v u) : u = nilOf k := by
  unfold isNilC at hk
  split at hk
  · cases hv with
    | sl us h1 h2 h3 h4 h5 h6 h7 => obtain ⟨rfl, _, rfl⟩ := h3 rfl; rfl
  · cases hv; rfl
  · cases hv; rfl
  · cases hv; rfl
  · cases hk
theorem guard_nil (op : BinOp) (t : TypeId) (x y : Operand) {k : TK} {u v : Value} (hu : HasK k u) : eqGuard op t x y u v = pure () := by
  cases k <;> first | exact hu.elim | skip
  · obtain ⟨a, n, c, rfl⟩ := hu; cases op <;> rfl
  · obtain ⟨a, rfl⟩ := hu; cases op <;> rfl
  · obtain ⟨a, rfl⟩ := hu; cases op <;> rfl
  · rcases hu with rfl | ⟨f, a, c, rfl⟩ <;> cases op <;> rfl
theorem hasK_nil {k : TK} {u : Value} (hu : HasK k u) : HasK k (nilOf k) := by
  cases k <;> first | exact hu.elim | exact ⟨_, rfl⟩ | exact ⟨_, _, _, rfl⟩ | exact .inl rfl
theorem equal_nil {t : TypeId} {k : TK} {u : Value} (hu : HasK k u) (ht : KOK P t k) : (Op.equal t u (nilOf k)).run P w = .ok (isNilV u) w ∧ (Op.equal t (nilOf k) u).run P w = .ok (isNilV u) w := by
  have hun : ∀ {d}, P.underlying t = some d → (underlying t).run P w = .ok d w := fun hd => run_underlying hd w
  obtain ⟨d, hd⟩ : ∃ d, Op.maxDepth = d + 1 := ⟨9999, rfl⟩
  unfold Op.equal
  rw [hd]
  cases k <;> first | exact hu.elim | skip
  · obtain ⟨a, n, c, rfl⟩ := hu
    simp only [Op.equalIn, Sem.run_bind, hun ht, Result.andThen_ok, nilOf]
    cases a <;> exact ⟨rfl, rfl⟩
  · obtain ⟨a, rfl⟩ := hu
    simp only [Op.equalIn, Sem.run_bind, hun ht, Result.andThen_ok, nilOf]
    cases a <;> exact ⟨rfl, rfl⟩
  · obtain ⟨a, rfl⟩ := hu
    simp only [Op.equalIn, Sem.run_bind, hun ht, Result.andThen_ok, nilOf]
    cases a <;> exact ⟨rfl, rfl⟩
  · obtain ⟨p, q, r, ht⟩ := ht
    rcases hu with rfl | ⟨f, a, c, rfl⟩ <;> simp only [Op.equalIn, Sem.run_bind, hun ht, Result.andThen_ok, nilOf] <;> exact ⟨rfl, rfl⟩
theorem binOp_eq {t : TypeId} {k : TK} {u v : Value} (hu : HasK k u) : (binOp .eql t u v) = (do pure (.bool (← Op.equal t u v))) ∧ (binOp .neq t u v) = (do pure (.bool (!(← Op.equal t u v)))) := by
  cases k <;> first | exact hu.elim | skip
  · obtain ⟨a, n, c, rfl⟩ := hu; cases v <;> exact ⟨rfl, rfl⟩
  · obtain ⟨a, rfl⟩ := hu; cases v <;> exact ⟨rfl, rfl⟩
  · obtain ⟨a, rfl⟩ := hu; cases v <;> exact ⟨rfl, rfl⟩
  · rcases hu with rfl | ⟨f, a, c, rfl⟩ <;> cases v <;> exact ⟨rfl, rfl⟩
theorem nil_ok {t : TypeId} {k : TK} {x y : Operand} {v v' : AV} {u u' : Value} {K : AV → Prop} (neg : Bool) (ht : KOK P t k) (hv : VRel w h γ v u) (hv' : VRel w h γ v' u')
    (hk : br (isNilC k v') (isNil k h v fun b => K (.bool (flip neg b))) (br (isNilC k v) (isNil k h v' fun b => K (.bool (flip neg b))) False)) :
    PureOK P w h γ (do eqGuard (if neg then .neq else .eql) t x y u u'; binOp (if neg then .neq else .eql) t u u') K := by
  rcases br_inv hk with ⟨h1, hk⟩ | ⟨_, hk⟩
  · obtain ⟨hu, hk⟩ := isNil_inv hk hv
    obtain rfl := isNilC_inv h1 hv'
    refine ⟨.bool (flip neg (isNilV u)), _, ?_, hk, DRel.bool⟩
    rw [guard_nil _ t x y hu]
    cases neg
    · simp only [Bool.false_eq_true, if_false, Sem.run_bind, Sem.run_pure, Result.andThen_ok, (binOp_eq hu).1, (equal_nil hu ht).1, flip]
    · simp only [if_true, Sem.run_bind, Sem.run_pure, Result.andThen_ok, (binOp_eq hu).2, (equal_nil hu ht).1, flip]
  · obtain ⟨h1, hk⟩ := br_t hk
    obtain ⟨hu, hk⟩ := isNil_inv hk hv'
    obtain rfl := isNilC_inv h1 hv
    refine ⟨.bool (flip neg (isNilV u')), _, ?_, hk, DRel.bool⟩
    rw [guard_nil _ t x y (hasK_nil hu)]
    cases neg
    · simp only [Bool.false_eq_true, if_false, Sem.run_bind, Sem.run_pure, Result.andThen_ok, (binOp_eq (hasK_nil hu)).1, (equal_nil hu ht).2, flip]
    · simp only [if_true, Sem.run_bind, Sem.run_pure, Result.andThen_ok, (binOp_eq (hasK_nil hu)).2, (equal_nil hu ht).2, flip]

/-! ### binOp, unOp -/
theorem datas_inv : ∀ {l : List Lf} {l' : List D}, datas l = some l' → l = l'.map .d
  | [], l', hk => by simp [datas] at hk; subst hk; rfl
  | .d x :: l, l', hk => by
    simp only [datas, Option.map_eq_some_iff] at hk
    obtain ⟨m, hm, rfl⟩ := hk
    simp [datas_inv hm]
  | .ptr .. :: _, _, hk => by simp [datas] at hk
  | .rptr .. :: _, _, hk => by simp [datas] at hk
  | .rop .. :: _, _, hk => by simp [datas] at hk
  | .rw .. :: _, _, hk => by simp [datas] at hk
  | .rws .. :: _, _, hk => by simp [datas] at hk
  | .map .. :: _, _, hk => by simp [datas] at hk
  | .fn .. :: _, _, hk => by simp [datas] at hk
theorem eqA_inv {z : List D} {l m : List Lf} {K : Bool → Prop} (hk : eqA z l m K) : ∃ l' m', l = l'.map .d ∧ m = m'.map .d ∧ likeL z l' fun l => likeL z m' fun m => eqL l m K := by
  unfold eqA at hk
  split at hk
  · rename_i l' m' h1 h2; exact ⟨l', m', datas_inv h1, datas_inv h2, hk⟩
  · exact hk.elim
theorem bin_ok (H : EOK P E) {op : BinOp} {t : TypeId} {x y : Operand} {v v' : AV} {u u' : Value} {K : AV → Prop} (hv : VRel w h γ v u) (hv' : VRel w h γ v' u')
    (hk : binP E op t v v' h K) : PureOK P w h γ (do eqGuard op t x y u u'; binOp op t u u') K := by
  unfold binP at hk
  split at hk
  · exact hk.elim
  rename_i ti hti
  have ht := (H t ti hti).kind
  split at hk
  · split at hk
    · obtain ⟨a, _, rfl, hk⟩ := asK_inv hk hv
      obtain ⟨k2, b, _, rfl, hk⟩ := asI_inv hk hv'
      exact shift_ok hk
    · obtain ⟨a, _, rfl, hk⟩ := asK_inv hk hv
      obtain ⟨k2, b, _, rfl, hk⟩ := asI_inv hk hv'
      exact shift_ok hk
    · obtain ⟨a, _, rfl, hk⟩ := asK_inv hk hv
      obtain ⟨b, _, rfl, hk⟩ := asK_inv hk hv'
      exact int_ok hk
  · obtain ⟨a, _, rfl, hk⟩ := asS_inv hk hv
    obtain ⟨b, _, rfl, hk⟩ := asS_inv hk hv'
    exact str_ok hk
  · rename_i hkk
    have hu : P.underlying t = some .bool := by have := ht; rw [hkk] at this; exact this
    obtain ⟨d, hd⟩ : ∃ d, Op.maxDepth = d + 1 := ⟨9999, rfl⟩
    split at hk
    · obtain ⟨a, _, rfl, hk⟩ := asB_inv hk hv
      obtain ⟨b, _, rfl, hk⟩ := asB_inv hk hv'
      refine ⟨.bool (a == b), _, ?_, hk, DRel.bool⟩
      rw [guard_bool]
      simp only [Sem.run_bind, Sem.run_pure, Result.andThen_ok, binOp, Op.equal, hd, Op.equalIn, run_underlying hu w]
    · obtain ⟨a, _, rfl, hk⟩ := asB_inv hk hv
      obtain ⟨b, _, rfl, hk⟩ := asB_inv hk hv'
      refine ⟨.bool (!(a == b)), _, ?_, hk, DRel.bool⟩
      rw [guard_bool]
      simp only [Sem.run_bind, Sem.run_pure, Result.andThen_ok, binOp, Op.equal, hd, Op.equalIn, run_underlying hu w]
    · exact hk.elim
  all_goals try exact hk.elim
  · split at hk
    · exact nil_ok (neg := false) ht hv hv' hk
    · exact nil_ok (neg := true) ht hv hv' hk
    · exact hk.elim
  · split at hk
    · exact nil_ok (neg := false) ht hv hv' hk
    · exact nil_ok (neg := true) ht hv hv' hk
    · exact hk.elim
  · split at hk
    · exact nil_ok (neg := false) ht hv hv' hk
    · exact nil_ok (neg := true) ht hv hv' hk
    · exact hk.elim
  · split at hk
    · exact nil_ok (neg := false) ht hv hv' hk
    · exact nil_ok (neg := true) ht hv hv' hk
    · exact hk.elim
  · split at hk
    · rename_i l m heq
      obtain ⟨l', m', rfl, rfl, hk2⟩ := eqA_inv hk
      obtain ⟨cs, rfl, hc⟩ := hv
      obtain ⟨ds, rfl, hd⟩ := hv'
      obtain ⟨l', hk2, e1, q1⟩ := likeL_inv hk2
      obtain ⟨m', hk2, e2, q2⟩ := likeL_inv hk2
      obtain ⟨b, hb, h1, _⟩ := (H t ti hti).eq heq w _ l' m' cs ds x y _ (e1 _ _ _ hc.of_map_left) (e2 _ _ _ hd.of_map_left) q1 q2 hk2
      exact ⟨.bool b, .bool b, h1, hb, DRel.bool⟩
    · rename_i l m heq
      obtain ⟨l', m', rfl, rfl, hk2⟩ := eqA_inv hk
      obtain ⟨cs, rfl, hc⟩ := hv
      obtain ⟨ds, rfl, hd⟩ := hv'
      obtain ⟨l', hk2, e1, q1⟩ := likeL_inv hk2
      obtain ⟨m', hk2, e2, q2⟩ := likeL_inv hk2
      obtain ⟨b, hb, _, h1⟩ := (H t ti hti).eq heq w _ l' m' cs ds x y _ (e1 _ _ _ hc.of_map_left) (e2 _ _ _ hd.of_map_left) q1 q2 hk2
      exact ⟨.bool (!b), .bool (!b), h1, hb, DRel.bool⟩
    · exact hk.elim
  · split at hk
    · rename_i l m heq
      obtain ⟨l', m', rfl, rfl, hk2⟩ := eqA_inv hk
      obtain ⟨cs, rfl, hc⟩ := hv
      obtain ⟨ds, rfl, hd⟩ := hv'
      obtain ⟨l', hk2, e1, q1⟩ := likeL_inv hk2
      obtain ⟨m', hk2, e2, q2⟩ := likeL_inv hk2
      obtain ⟨b, hb, h1, _⟩ := (H t ti hti).eq heq w _ l' m' cs ds x y _ (e1 _ _ _ hc.of_map_left) (e2 _ _ _ hd.of_map_left) q1 q2 hk2
      exact ⟨.bool b, .bool b, h1, hb, DRel.bool⟩
    · rename_i l m heq
      obtain ⟨l', m', rfl, rfl, hk2⟩ := eqA_inv hk
      obtain ⟨cs, rfl, hc⟩ := hv
      obtain ⟨ds, rfl, hd⟩ := hv'
      obtain ⟨l', hk2, e1, q1⟩ := likeL_inv hk2
      obtain ⟨m', hk2, e2, q2⟩ := likeL_inv hk2
      obtain ⟨b, hb, _, h1⟩ := (H t ti hti).eq heq w _ l' m' cs ds x y _ (e1 _ _ _ hc.of_map_left) (e2 _ _ _ hd.of_map_left) q1 q2 hk2
      exact ⟨.bool (!b), .bool (!b), h1, hb, DRel.bool⟩
    · exact hk.elim
theorem un_ok {op : UnOp} {t : Option TI} {v : AV} {u : Value} {K : AV → Prop} (hv : VRel w h γ v u) (hk : unP op t v K) : PureOK P w h γ (Op.unary op u) K := by
  unfold unP at hk
  split at hk
  · obtain ⟨b, _, rfl, hk⟩ := asB_inv hk hv
    exact ⟨_, _, by simp [Op.unary], hk, DRel.bool⟩
  · split at hk
    · obtain ⟨a, _, rfl, hk⟩ := asK_inv hk hv
      exact ⟨_, _, by simp only [Op.unary, Op.intArith, Sem.run_pure], hk, DRel.int⟩
    · exact hk.elim
  · split at hk
    · obtain ⟨a, _, rfl, hk⟩ := asK_inv hk hv
      exact ⟨_, _, by simp only [Op.unary, Op.intBits, Sem.run_pure], hk, DRel.int⟩
    · exact hk.elim
  · exact hk.elim
end
end Go.Proofs.YtahlcbmmjfdcaaaGreatDoor.PX
