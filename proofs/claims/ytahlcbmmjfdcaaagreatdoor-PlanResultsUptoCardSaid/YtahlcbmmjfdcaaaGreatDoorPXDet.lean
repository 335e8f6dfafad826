/- PX, part 16: operations that only look: their answer is decided by their operands and what they look at. -/
import Derived.Test.YtahlcbmmjfdcaaaGreatDoorPXFun
set_option linter.all false
namespace Go.Proofs.YtahlcbmmjfdcaaaGreatDoor.PX
set_option linter.unusedVariables false
set_option linter.unusedSimpArgs false

/-- One value decides. -/
def Det {α : Type} (X : (α → Prop) → Prop) : Prop := ∀ K, X K → ∃ v, K v ∧ ∀ K' : α → Prop, K' v → X K'
section
variable {α β : Type}
theorem det_one (v : α) : Det fun K => K v := fun K hk => ⟨v, hk, fun _ h => h⟩
theorem det_false : Det fun _ : α → Prop => False := fun _ hk => hk.elim
theorem det_bind {X : (β → Prop) → Prop} {Y : β → (α → Prop) → Prop} (hx : Det X) (hy : ∀ b, Det (Y b)) : Det fun K => X fun b => Y b K := fun K hk => by
  obtain ⟨b, h1, h2⟩ := hx _ hk
  obtain ⟨v, h3, h4⟩ := hy b _ h1
  exact ⟨v, h3, fun K' h => h2 _ (h4 K' h)⟩
theorem det_br {X Y : (α → Prop) → Prop} (b : Bool) (hx : Det X) (hy : Det Y) : Det fun K => br b (X K) (Y K) := by cases b <;> assumption
theorem det_brF {X : (α → Prop) → Prop} (b : Bool) (hx : Det X) : Det fun K => br b (X K) False := det_br b hx det_false
theorem det_Fbr {X : (α → Prop) → Prop} (b : Bool) (hx : Det X) : Det fun K => br b False (X K) := det_br b det_false hx
theorem det_gd {X : (α → Prop) → Prop} (b : Bool) (hx : Det X) : Det fun K => gd b (X K) := by cases b <;> first | exact hx | exact det_false
theorem det_and {X : (α → Prop) → Prop} (p : Prop) (hx : Det X) : Det fun K => p ∧ X K := fun K hk => by
  obtain ⟨v, h3, h4⟩ := hx _ hk.2
  exact ⟨v, h3, fun K' h => ⟨hk.1, h4 K' h⟩⟩
theorem det_onD (v : AV) : Det (onD v) := by
  unfold onD
  split
  · exact det_one _
  · exact det_false
theorem det_dK (k : IntKind) (x : D) : Det (dK k x) := by
  unfold dK
  split
  · exact det_brF _ (det_one _)
  · exact det_false
theorem det_dI (x : D) : Det (dI x) := by
  unfold dI
  split
  · exact det_one _
  · exact det_false
theorem det_dB (x : D) : Det (dB x) := by
  unfold dB
  split
  · exact det_one _
  · exact det_false
theorem det_dS (x : D) : Det (dS x) := by
  unfold dS
  split
  · exact det_one _
  · exact det_false
theorem det_asK (k : IntKind) (v : AV) : Det (asK k v) := det_bind (X := onD v) (Y := fun x K => dK k x K) (det_onD v) fun x => det_dK k x
theorem det_asI (v : AV) : Det (asI v) := det_bind (X := onD v) (Y := fun x K => dI x K) (det_onD v) fun x => det_dI x
theorem det_asB (v : AV) : Det (asB v) := det_bind (X := onD v) (Y := fun x K => dB x K) (det_onD v) fun x => det_dB x
theorem det_asS (v : AV) : Det (asS v) := det_bind (X := onD v) (Y := fun x K => dS x K) (det_onD v) fun x => det_dS x
theorem det_at (l : List α) (i : Nat) : Det (at' l i) := by
  unfold at'
  split
  · exact det_one _
  · exact det_false
theorem det_take (l : List α) : ∀ (n off : Nat), Det (takeP l off n)
  | 0, off => det_one _
  | n + 1, off => det_bind (X := at' l off) (Y := fun x K => takeP l (off + 1) n fun xs => K (x :: xs)) (det_at l off) fun x => det_bind (X := takeP l (off + 1) n) (Y := fun xs K => K (x :: xs)) (det_take l n (off + 1)) fun xs => det_one _
theorem det_onT (v : AV) : Det (onT v) := by
  unfold onT
  split
  · exact det_one _
  · exact det_false
theorem det_dSl (x : D) {Y : Nat → List (List D) → SF → (α → Prop) → Prop} (hy : ∀ n es f, Det (Y n es f)) : Det fun K => dSl x fun n es f => Y n es f K := by
  unfold dSl
  split
  · exact hy _ _ _
  · exact det_false
end
section
variable {E : Env} {h : List Obj}
theorem det_arith (op : BinOp) (k : IntKind) (a b : Int) : Det (arith op k a b) := by
  cases op <;> first | exact det_one _ | exact det_gd _ (det_one _) | exact det_false
theorem det_shift (op : BinOp) (k : IntKind) (a b : Int) : Det (shiftP op k a b) := by
  cases op <;> first | exact det_gd _ (det_one _) | exact det_false
theorem det_str (op : BinOp) (a b : List UInt8) : Det (strP op a b) := by
  cases op <;> first | exact det_one _ | exact det_gd _ (det_one _) | exact det_false
theorem det_eqD (x y : D) : Det (eqD x y) := by
  unfold eqD
  split
  · exact det_bind (det_dK _ _) fun _ => det_one _
  · exact det_bind (det_dB _) fun _ => det_one _
  · exact det_bind (det_dS _) fun _ => det_one _
  · exact det_false
theorem det_eqL : ∀ l m : List D, Det (eqL l m)
  | [], [] => det_one _
  | x :: l, y :: m => det_bind (X := eqD x y) (Y := fun b K => br b (eqL l m K) (K false)) (det_eqD x y) fun b => det_br b (det_eqL l m) (det_one _)
  | [], _ :: _ => det_false
  | _ :: _, [] => det_false
theorem det_likeD (z x : D) : Det (likeD z x) := by
  unfold likeD
  split
  · exact det_bind (det_dK _ _) fun _ => det_one _
  · exact det_bind (det_dB _) fun _ => det_one _
  · exact det_bind (det_dS _) fun _ => det_one _
  · exact det_dSl _ fun _ _ _ => det_brF _ (det_one _)
  · exact det_one _
theorem det_likeL : ∀ (zs xs : List D), Det (likeL zs xs)
  | [], [] => det_one _
  | z :: zs, x :: xs => det_bind (X := likeD z x) (Y := fun y K => likeL zs xs fun ys => K (y :: ys)) (det_likeD z x) fun y => det_bind (X := likeL zs xs) (Y := fun ys K => K (y :: ys)) (det_likeL zs xs) fun _ => det_one _
  | [], _ :: _ => det_false
  | _ :: _, [] => det_false
theorem det_eqA (z : List D) (l m : List Lf) : Det (eqA z l m) := by
  unfold eqA
  split
  · exact det_bind (det_likeL _ _) fun _ => det_bind (det_likeL _ _) fun _ => det_eqL _ _
  · exact det_false
/-- Two values of this type can be held against each other, and the answer is decided. -/
def plainK : TK → Bool | .int _ | .str | .bool | .struct _ | .arr _ _ => true | _ => false
theorem det_bin (op : BinOp) (t : TypeId) (x y : AV) (hp : (match E.T t with | some ti => plainK ti.k | none => true) = true) : Det (binP E op t x y h) := by
  unfold binP
  split
  · exact det_false
  · rename_i ti hti
    rw [hti] at hp
    simp only at hp
    split
    · split
      · exact det_bind (det_asK _ _) fun _ => det_bind (det_asI _) fun _ => det_shift _ _ _ _
      · exact det_bind (det_asK _ _) fun _ => det_bind (det_asI _) fun _ => det_shift _ _ _ _
      · exact det_bind (det_asK _ _) fun _ => det_bind (det_asK _ _) fun _ => det_arith _ _ _ _
    · exact det_bind (det_asS _) fun _ => det_bind (det_asS _) fun _ => det_str _ _ _
    · split
      · exact det_bind (det_asB _) fun _ => det_bind (det_asB _) fun _ => det_one _
      · exact det_bind (det_asB _) fun _ => det_bind (det_asB _) fun _ => det_one _
      · exact det_false
    all_goals first
      | (rename_i hk; rw [hk] at hp; cases hp; done)
      | exact det_false
      | skip
    all_goals
      split
      · exact det_bind (det_eqA _ _ _) fun _ => det_one _
      · exact det_bind (det_eqA _ _ _) fun _ => det_one _
      · exact det_false
theorem det_un (op : UnOp) (k : Option TI) (x : AV) : Det (unP op k x) := by
  unfold unP
  split
  · exact det_bind (det_asB _) fun _ => det_one _
  · split
    · exact det_bind (det_asK _ _) fun _ => det_one _
    · exact det_false
  · split
    · exact det_bind (det_asK _ _) fun _ => det_one _
    · exact det_false
  · exact det_false
theorem det_viewS {α : Type} (v : AV) {Y : Nat → List (List D) → (α → Prop) → Prop} (hy : ∀ n es, Det (Y n es)) : Det fun K => viewS h v fun n es => Y n es K := by
  unfold viewS
  split
  · exact det_dSl _ fun _ _ _ => hy _ _
  · split
    · exact det_brF _ (hy _ _)
    · exact det_false
  · split
    · exact det_brF _ (hy _ _)
    · exact det_false
  · exact det_false
theorem det_okSz {α : Type} {X : (α → Prop) → Prop} (a b : Nat) (es : List (List D)) (hx : Det X) : Det fun K => okSz a b es (X K) := det_br _ hx (det_gd _ hx)
theorem det_len (t : TypeId) (v : AV) : Det (lenP E t v h) := by
  unfold lenP
  split
  · exact det_false
  · split
    · exact det_bind (det_asS _) fun _ => det_one _
    · split
      · exact det_brF _ (det_one _)
      · exact det_viewS _ fun _ _ => det_one _
    · exact det_one _
    · split
      · split
        · exact det_one _
        · exact det_false
      · exact det_one _
      · exact det_false
    · exact det_false
theorem det_loadD (z l : List D) (off n : Nat) (agg : Bool) : Det (loadD z l off n agg) := by
  unfold loadD
  split
  · exact det_bind (det_take _ _ _) fun _ => det_bind (det_likeL _ _) fun _ => det_one _
  · exact det_bind (det_at _ _) fun _ => det_bind (det_likeL _ _) fun _ => det_bind (det_at _ _) fun _ => det_one _
theorem det_load (t : TypeId) (a : AV) : Det (loadP E t a h) := by
  unfold loadP
  split
  · exact det_false
  · refine det_Fbr _ ?_
    split
    · split
      · split
        · exact det_bind (det_take _ _ _) fun _ => det_one _
        · exact det_bind (det_at _ _) fun _ => det_one _
      · exact det_loadD _ _ _ _ _
      · exact det_false
    · split
      · exact det_brF _ (det_bind (det_at _ _) fun _ => det_loadD _ _ _ _ _)
      · exact det_false
    · exact det_loadD _ _ _ _ _
    · exact det_false
theorem det_shiftPtr (a : AV) (n : Nat) : Det (shiftPtr h a n) := by
  unfold shiftPtr
  split
  · exact det_brF _ (det_one _)
  · exact det_brF _ (det_one _)
  · exact det_one _
  · exact det_false
theorem det_fieldAddr (t : TypeId) (a : AV) (f : Nat) : Det (fieldAddrP E t a f h) := by
  unfold fieldAddrP
  split
  · split
    · exact det_Fbr _ (det_shiftPtr _ _)
    · exact det_false
  · exact det_false
theorem det_indexAddr (t : TypeId) (a i : AV) : Det (indexAddrP E t a i h) := by
  unfold indexAddrP
  split
  · split
    · exact det_false
    · refine det_bind (X := asI i) (det_asI _) fun _ => ?_
      split
      · exact det_dSl _ fun _ _ _ => det_okSz _ _ _ (det_gd _ (det_bind (det_at _ _) fun _ => det_one _))
      · split
        · exact det_brF _ (det_gd _ (det_one _))
        · exact det_false
      · split
        · exact det_brF _ (det_gd _ (det_one _))
        · exact det_false
      · exact det_false
  · split
    · exact det_false
    · exact det_bind (X := asI i) (det_asI _) fun _ => det_gd _ (det_shiftPtr _ _)
  · exact det_false
theorem det_bound (x : Option AV) (d : Int) : Det (bound x d) := by
  unfold bound
  split
  · exact det_one _
  · exact det_asI _
theorem det_slice (t : TypeId) (x : AV) (lo hi mx : Option AV) : Det (sliceP E t x lo hi mx h) := by
  unfold sliceP
  split
  · split
    · exact det_bind (det_asS _) fun _ => det_bind (det_bound _ _) fun _ => det_bind (det_bound _ _) fun _ => det_gd _ (det_one _)
    · exact det_false
  · split
    · exact det_false
    · split
      · refine det_dSl _ fun _ _ _ => det_okSz _ _ _ ?_
        split
        · exact det_bind (det_bound _ _) fun _ => det_bind (det_bound _ _) fun _ => det_gd _ (det_one _)
        · split
          · exact det_false
          · exact det_bind (det_asI _) fun _ => det_bind (det_asI _) fun _ => det_bind (det_bound _ _) fun _ => det_gd _ (det_br _ (det_one _) (det_one _))
      · split
        · refine det_brF _ ?_
          split
          · exact det_bind (det_bound _ _) fun _ => det_bind (det_bound _ _) fun _ => det_gd _ (det_one _)
          · split
            · exact det_false
            · exact det_bind (det_asI _) fun _ => det_bind (det_asI _) fun _ => det_bind (det_bound _ _) fun _ => det_gd _ (det_one _)
        · exact det_false
      · split
        · refine det_brF _ ?_
          split
          · exact det_bind (det_bound _ _) fun _ => det_bind (det_bound _ _) fun _ => det_gd _ (det_one _)
          · exact det_false
        · exact det_false
      · exact det_false
  · exact det_false
theorem det_extract (v : AV) (i : Nat) : Det (extractP v i) := by
  unfold extractP
  split
  · exact det_bind (det_at _ _) fun _ => det_one _
  · exact det_false
theorem det_mmGo (mx : Bool) : ∀ (l : List AV) (a : Int), Det (mmGo mx a l)
  | [], a => det_one _
  | y :: l, a => det_bind (X := asK .i64 y) (Y := fun b K => mmGo mx (mmOf mx a b) l K) (det_asK _ _) fun b => det_mmGo mx l _
theorem det_mm (mx : Bool) (l : List AV) : Det (mmP mx l) := by
  cases l with
  | nil => exact det_false
  | cons x l => exact det_bind (X := asK .i64 x) (Y := fun b K => mmGo mx b l K) (det_asK _ _) fun b => det_mmGo mx l b
theorem det_fill (fs : List (Nat × Nat)) (zs : List D) : ∀ (ps : List (Nat × AV)) (acc : List Lf), Det (fillP fs zs acc ps)
  | [], acc => det_one _
  | (i, v) :: ps, acc => by
    show Det fun K => (match fs[i]? with
      | some (o, n) => onT v fun v => br (Nat.beq (leaves v).length n && Nat.ble (o + n) acc.length) (fillP fs zs (setN acc o (castLs ((zs.drop o).take n) (leaves v))) ps K) False
      | none => False)
    split
    · exact det_bind (det_onT _) fun _ => det_brF _ (det_fill fs zs ps _)
    · exact det_false
theorem det_build (t : TypeId) (ps : List (Nat × AV)) : Det (buildP E t ps) := by
  unfold buildP
  split
  · exact det_false
  · refine det_brF _ ?_
    split
    · exact det_bind (det_fill _ _ _ _) fun _ => det_one _
    · exact det_false
theorem det_index (t : TypeId) (x i : AV) : Det (indexP E t x i) := by
  unfold indexP
  split
  · exact det_bind (X := asS x) (det_asS _) fun _ => det_bind (X := asI i) (det_asI _) fun _ => det_gd _ (det_bind (det_at _ _) fun _ => det_one _)
  · split
    · refine det_bind (X := asI i) (det_asI _) fun _ => det_gd _ ?_
      split
      · exact det_false
      · exact det_bind (det_at _ _) fun _ => det_one _
    · exact det_false
  · exact det_false
/-- Operations that only look, and whose answer is decided. -/
def plainOp (E : Env) (o : Oper) : Bool :=
  match o.op with
  | .move _ | .assign _ | .pick .. | .build .. | .load .. | .nilCheck _ | .unOp .. | .slice .. | .fieldAddr .. | .indexAddr .. | .index .. | .extract .. => true
  | .binOp _ t _ _ _ => match E.T t with | some ti => plainK ti.k | none => true
  | .convert a b _ => match E.kind a, E.kind b with | some (.int _), some (.int _) => true | _, _ => false
  | .call c => match c.callee, c.argTypes.toList, c.args.toList with | .builtin .len, _ :: _, [_] => true | .builtin .max, _, _ => true | .builtin .min, _, _ => true | _, _, _ => false
  | _ => false
theorem det_op {cal : Cal} {o : Oper} {s : St} (hp : plainOp E o = true) {K : AV → List Obj → Prop} (hk : opP E cal o s K) : ∃ v, K v s.heap ∧ ∀ K' : AV → List Obj → Prop, K' v s.heap → opP E cal o s K' := by
  have key : ∀ {X : (AV → Prop) → Prop}, Det X → (∀ K, opP E cal o s K = X fun v => K v s.heap) → ∃ v, K v s.heap ∧ ∀ K' : AV → List Obj → Prop, K' v s.heap → opP E cal o s K' := fun {X} hd he => by
    rw [he] at hk
    obtain ⟨v, h1, h2⟩ := hd _ hk
    exact ⟨v, h1, fun K' h => by rw [he]; exact h2 _ h⟩
  obtain ⟨dst, op, ty, pos, after, guard⟩ := o
  unfold plainOp at hp
  cases op with
  | move x => exact key (det_one _) fun _ => rfl
  | assign x => exact key (det_one _) fun _ => rfl
  | pick c x y => exact key (X := fun K => asB (ev E s.slots c) fun t => br t (K (ev E s.slots x)) (K (ev E s.slots y))) (det_bind (det_asB _) fun _ => det_br _ (det_one _) (det_one _)) fun _ => rfl
  | build t ps => exact key (det_build _ _) fun _ => rfl
  | load t x => exact key (det_load _ _) fun _ => rfl
  | nilCheck x => exact key (det_shiftPtr _ _) fun _ => rfl
  | unOp op t x => exact key (det_un _ _ _) fun _ => rfl
  | slice t x lo hi mx => exact key (det_slice _ _ _ _ _) fun _ => rfl
  | fieldAddr t x f => exact key (det_fieldAddr _ _ _) fun _ => rfl
  | indexAddr t x i => exact key (det_indexAddr _ _ _) fun _ => rfl
  | index t x i => exact key (det_index _ _ _) fun _ => rfl
  | extract t i => exact key (det_extract _ _) fun _ => rfl
  | binOp op t x y q => exact key (det_bin _ _ _ _ hp) fun _ => rfl
  | convert a b x =>
    simp only at hp
    split at hp
    · rename_i k1 k2 h1 h2
      refine key (X := fun K => asI (ev E s.slots x) fun n => K (.int k2 (k2.wrap n))) (det_bind (det_asI _) fun _ => det_one _) fun K => ?_
      simp only [opP, convP, h1, h2]
    · cases hp
  | call c =>
    obtain ⟨callee, args, argTypes⟩ := c
    simp only at hp
    split at hp
    · rename_i t r x h2 h3
      refine key (X := fun K => lenP E t (ev E s.slots x) s.heap K) (det_len _ _) fun K => ?_
      simp only [opP, builtinP, h2, h3, List.map_cons, List.map_nil]
    · refine key (X := fun K => mmP true (args.toList.map (ev E s.slots)) fun n => K (.int .i64 n)) (det_bind (det_mm _ _) fun _ => det_one _) fun K => rfl
    · refine key (X := fun K => mmP false (args.toList.map (ev E s.slots)) fun n => K (.int .i64 n)) (det_bind (det_mm _ _) fun _ => det_one _) fun K => rfl
    · cases hp
  | _ => cases hp
end
end Go.Proofs.YtahlcbmmjfdcaaaGreatDoor.PX
