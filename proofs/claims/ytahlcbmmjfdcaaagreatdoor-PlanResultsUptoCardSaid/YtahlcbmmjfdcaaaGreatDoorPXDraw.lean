/- PX, part 17: drawn regions: any order that the edges allow leads to the same state. -/
import Derived.Test.YtahlcbmmjfdcaaaGreatDoorPXDet
set_option linter.all false
namespace Go.Proofs.YtahlcbmmjfdcaaaGreatDoor.PX
set_option linter.unusedVariables false
set_option linter.unusedSimpArgs false

/-! ### The order -/
def dstOf (ops : List Oper) (i : Nat) : Option Nat := (ops[i]?).bind (·.dst)
def edges (o : Oper) : List Nat := (o.after.toList.filter (Region.binds .any)).map (·.on)
def ancM (ms : List Nat) : List Nat → Nat
  | [] => 0
  | j :: es => Nat.lor (Nat.lor (Nat.pow 2 j) (ms.getD j 0)) (ancM ms es)
/-- What must come ahead of each operation, as bits. -/
def ancAll : List Oper → List Nat → List Nat
  | [], ms => ms
  | o :: l, ms => ancAll l (ms ++ [ancM ms (edges o)])
def tmpsOf (l : List Operand) : List Nat := l.filterMap fun | .tmp t => some t | _ => none
def opnds (o : Oper) : List Nat := tmpsOf o.op.operands.toList
def okOp (ops : List Oper) (A : List Nat) (i : Nat) (o : Oper) : Bool :=
  (edges o).all (Nat.blt · i) && (match o.guard with | none => true | some (g, _) => mem (edges o) g) &&
  (List.range ops.length).all fun y => Nat.beq y i || (match dstOf ops y with | none => true | some d => (match o.dst with | none => true | some d' => !Nat.beq d d') && (!mem (opnds o) d || (A.getD i 0).testBit y || (A.getD y 0).testBit i))
def okOps (ops : List Oper) (A : List Nat) : Bool := (List.range ops.length).all fun i => match ops[i]? with | some o => okOp ops A i o | none => true
def ready (A : List Nat) (L i : Nat) : Bool := !L.testBit i && Nat.beq (Nat.land (A.getD i 0) L) (A.getD i 0)
def plainAt (E : Env) (ops : List Oper) (i : Nat) : Bool := match ops[i]? with | some o => plainOp E o | none => false
def nextI (E : Env) (ops : List Oper) (A : List Nat) (L : Nat) : Option Nat :=
  match (List.range ops.length).find? fun i => ready A L i && plainAt E ops i with
  | some i => some i
  | none => (List.range ops.length).find? (ready A L)
/-- An operation that has been told of, and may yet have to be done. -/
structure Pd where
  i : Nat
  sl : List AV
  v : AV
/-- A value that holds no memory of our own. -/
def noMem : AV → Bool | .one (.lf (.d _)) | .one (.lf (.rop _ _)) | .one (.agg _) => true | _ => false
/-- Does its answer hang on its operands alone? -/
def pureOp (E : Env) (o : Oper) (sl : List AV) : Bool :=
  match o.op with
  | .move _ | .assign _ | .pick .. | .build .. | .unOp .. | .index .. | .extract .. | .binOp .. | .convert .. => true
  | .load _ x | .nilCheck x | .fieldAddr _ x _ | .slice _ x _ _ _ | .indexAddr _ x _ => noMem (ev E sl x)
  | .call c => match c.callee, c.args.toList with | .builtin .len, [x] => noMem (ev E sl x) | .builtin .max, _ => true | .builtin .min, _ => true | _, _ => false
  | _ => false
def sameAV (v v' : AV) (X : Prop) : Prop :=
  match v, v' with
  | .one (.lf (.ptr i o)), .one (.lf (.ptr i' o')) => br (Nat.beq i i' && Nat.beq o o') X False
  | .one (.lf (.rptr id ver i o)), .one (.lf (.rptr id' ver' i' o')) => br (Nat.beq id id' && Nat.beq ver ver' && Nat.beq o o') (i = i' ∧ X) False
  | .one (.lf (.rw i o)), .one (.lf (.rw i' o')) => br (Nat.beq i i' && Nat.beq o o') X False
  | .one (.lf (.d (.int k n))), .one (.lf (.d (.int k' n'))) => br (k == k') (n = n' ∧ X) False
  | .one (.lf (.d (.bool n))), .one (.lf (.d (.bool n'))) => n = n' ∧ X
  | .one (.lf (.d (.str n))), .one (.lf (.d (.str n'))) => n = n' ∧ X
  | v, v' => v = v' ∧ X
theorem sameAV_inv {v v' : AV} {X : Prop} (h : sameAV v v' X) : v = v' ∧ X := by
  unfold sameAV at h
  split at h
  · obtain ⟨hb, h⟩ := br_t h
    simp only [Bool.and_eq_true] at hb
    rw [Nat.eq_of_beq_eq_true hb.1, Nat.eq_of_beq_eq_true hb.2]; exact ⟨rfl, h⟩
  · obtain ⟨hb, hi, h⟩ := br_t h
    simp only [Bool.and_eq_true] at hb
    rw [Nat.eq_of_beq_eq_true hb.1.1, Nat.eq_of_beq_eq_true hb.1.2, Nat.eq_of_beq_eq_true hb.2, hi]; exact ⟨rfl, h⟩
  · obtain ⟨hb, h⟩ := br_t h
    simp only [Bool.and_eq_true] at hb
    rw [Nat.eq_of_beq_eq_true hb.1, Nat.eq_of_beq_eq_true hb.2]; exact ⟨rfl, h⟩
  · obtain ⟨hb, hi, h⟩ := br_t h
    rw [beq_iff_eq.1 hb, hi]; exact ⟨rfl, h⟩
  · rw [h.1]; exact ⟨rfl, h.2⟩
  · rw [h.1]; exact ⟨rfl, h.2⟩
  · exact h
def recheck (E : Env) (cal : Cal) (ops : List Oper) (h : List Obj) : List Pd → Prop → Prop
  | [], X => X
  | p :: ps, X => match ops[p.i]? with
    | some o => br (plainOp E o) (match pureOp E o p.sl with
      | true => recheck E cal ops h ps X
      | false => opP E cal o ⟨p.sl, h⟩ fun v _ => sameAV v p.v (recheck E cal ops h ps X)) False
    | none => False
def drawC (E : Env) (cal : Cal) (ops : List Oper) (A : List Nat) : Nat → Nat → List Pd → St → (St → Prop) → Prop
  | 0, L, _, s, K => br (Nat.beq L (Nat.sub (Nat.pow 2 ops.length) 1)) (K s) False
  | k + 1, L, pend, s, K =>
    match nextI E ops A L with
    | none => False
    | some i => match ops[i]? with
      | none => False
      | some o =>
        match plainOp E o with
        | true => guardP ops o s (fun s => opP E cal o s fun v h => drawC E cal ops A k (Nat.lor L (Nat.pow 2 i)) (⟨i, s.slots, v⟩ :: pend) (put s o.dst v h) K) (fun s => drawC E cal ops A k (Nat.lor L (Nat.pow 2 i)) pend (put s o.dst .un s.heap) K)
        | false => br ((List.range ops.length).all fun y => L.testBit y || Nat.beq y i || (A.getD y 0).testBit i)
          (guardP ops o s (fun s => opP E cal o s fun v h => recheck E cal ops h (pend.filter fun p => !(A.getD i 0).testBit p.i) (drawC E cal ops A k (Nat.lor L (Nat.pow 2 i)) (pend.filter fun p => !(A.getD i 0).testBit p.i) (put s o.dst v h) K))
            (fun s => drawC E cal ops A k (Nat.lor L (Nat.pow 2 i)) pend (put s o.dst .un s.heap) K)) False
def drawP (E : Env) (cal : Cal) (ops : List Oper) (s : St) (K : St → Prop) : Prop :=
  let A := ancAll ops []
  br (okOps ops A) (drawC E cal ops A ops.length 0 [] s K) False

/-! ### What hangs on operands alone -/
theorem pure_ex {E : Env} {cal : Cal} {o : Oper} {sl : List AV} (hp : plainOp E o = true) (hq : pureOp E o sl = true) : ∃ X : (AV → Prop) → Prop, ∀ h K, opP E cal o ⟨sl, h⟩ K = X fun v => K v h := by
  obtain ⟨dst, op, ty, pos, after, guard⟩ := o
  have nm : ∀ {v : AV}, noMem v = true → (∃ d, v = .d d) ∨ (∃ l off, v = .lf (.rop l off)) ∨ ∃ l, v = .agg l := by
    intro v hv
    unfold noMem at hv
    split at hv
    · exact .inl ⟨_, rfl⟩
    · exact .inr (.inl ⟨_, _, rfl⟩)
    · exact .inr (.inr ⟨_, rfl⟩)
    · cases hv
  unfold plainOp at hp
  unfold pureOp at hq
  cases op with
  | move x => exact ⟨fun K => K (castA (zeroOf E ty) (ev E sl x)), fun h K => rfl⟩
  | assign x => exact ⟨fun K => K (castA (zeroOf E ty) (ev E sl x)), fun h K => rfl⟩
  | pick c x y => exact ⟨fun K => asB (ev E sl c) fun t => br t (K (ev E sl x)) (K (ev E sl y)), fun h K => rfl⟩
  | build t ps => exact ⟨fun K => buildP E t (ps.toList.map fun p => (p.1, ev E sl p.2)) K, fun h K => rfl⟩
  | unOp op t x => exact ⟨fun K => unP op (E.T t) (ev E sl x) K, fun h K => rfl⟩
  | index t x i => exact ⟨fun K => indexP E t (ev E sl x) (ev E sl i) K, fun h K => rfl⟩
  | extract t i => exact ⟨fun K => extractP (ev E sl t) i K, fun h K => rfl⟩
  | binOp op t x y q =>
    refine ⟨fun K => binP E op t (ev E sl x) (ev E sl y) [] K, fun h K => ?_⟩
    show binP E op t (ev E sl x) (ev E sl y) h (fun v => K v h) = binP E op t (ev E sl x) (ev E sl y) [] (fun v => K v h)
    simp only at hp
    unfold binP
    cases hT : E.T t with
    | none => rfl
    | some ti =>
      rw [hT] at hp
      simp only at hp ⊢
      cases hk : ti.k <;> rw [hk] at hp <;> first | rfl | cases hp
  | load t x =>
    refine ⟨fun K => loadP E t (ev E sl x) [] K, fun h K => ?_⟩
    show loadP E t (ev E sl x) h (fun v => K v h) = loadP E t (ev E sl x) [] (fun v => K v h)
    rcases nm hq with ⟨d, e⟩ | ⟨l, off, e⟩ | ⟨l, e⟩ <;> rw [e] <;> rfl
  | nilCheck x =>
    refine ⟨fun K => shiftPtr [] (ev E sl x) 0 K, fun h K => ?_⟩
    show shiftPtr h (ev E sl x) 0 (fun v => K v h) = shiftPtr [] (ev E sl x) 0 (fun v => K v h)
    rcases nm hq with ⟨d, e⟩ | ⟨l, off, e⟩ | ⟨l, e⟩ <;> rw [e] <;> rfl
  | fieldAddr t x f =>
    refine ⟨fun K => fieldAddrP E t (ev E sl x) f [] K, fun h K => ?_⟩
    show fieldAddrP E t (ev E sl x) f h (fun v => K v h) = fieldAddrP E t (ev E sl x) f [] (fun v => K v h)
    rcases nm hq with ⟨d, e⟩ | ⟨l, off, e⟩ | ⟨l, e⟩ <;> rw [e] <;> rfl
  | indexAddr t x i =>
    refine ⟨fun K => indexAddrP E t (ev E sl x) (ev E sl i) [] K, fun h K => ?_⟩
    show indexAddrP E t (ev E sl x) (ev E sl i) h (fun v => K v h) = indexAddrP E t (ev E sl x) (ev E sl i) [] (fun v => K v h)
    rcases nm hq with ⟨d, e⟩ | ⟨l, off, e⟩ | ⟨l, e⟩ <;> rw [e] <;> rfl
  | slice t x lo hi mx =>
    refine ⟨fun K => sliceP E t (ev E sl x) (lo.map (ev E sl)) (hi.map (ev E sl)) (mx.map (ev E sl)) [] K, fun h K => ?_⟩
    show sliceP E t (ev E sl x) (lo.map (ev E sl)) (hi.map (ev E sl)) (mx.map (ev E sl)) h (fun v => K v h) = sliceP E t (ev E sl x) (lo.map (ev E sl)) (hi.map (ev E sl)) (mx.map (ev E sl)) [] (fun v => K v h)
    rcases nm hq with ⟨d, e⟩ | ⟨l, off, e⟩ | ⟨l, e⟩ <;> rw [e] <;> rfl
  | convert a b x =>
    simp only at hp
    split at hp
    · rename_i k1 k2 h1 h2
      refine ⟨fun K => asI (ev E sl x) fun n => K (.int k2 (k2.wrap n)), fun h K => ?_⟩
      simp only [opP, convP, h1, h2]
    · cases hp
  | call c =>
    obtain ⟨callee, args, argTypes⟩ := c
    simp only at hp hq
    split at hq
    · rename_i x h3
      split at hp
      · rename_i t r x' _ h2 h4
        rw [h3] at h4
        cases h4
        refine ⟨fun K => lenP E t (ev E sl x) [] K, fun h K => ?_⟩
        simp only [opP, builtinP, h2, h3, List.map_cons, List.map_nil]
        unfold lenP
        cases hT : E.T t with
        | none => rfl
        | some ti =>
          simp only
          rcases nm hq with ⟨d, e⟩ | ⟨l, off, e⟩ | ⟨l, e⟩ <;> rw [e] <;> cases ti.k <;> first | rfl | (cases d <;> rfl)
      all_goals first | (rename_i h; cases h; done) | cases hp
    · exact ⟨fun K => mmP true (args.toList.map (ev E sl)) fun n => K (.int .i64 n), fun h K => rfl⟩
    · exact ⟨fun K => mmP false (args.toList.map (ev E sl)) fun n => K (.int .i64 n), fun h K => rfl⟩
    · cases hq
  | _ => cases hp
theorem pure_any {E : Env} {cal : Cal} {o : Oper} {sl : List AV} {v : AV} {h h' : List Obj} (hp : plainOp E o = true) (hq : pureOp E o sl = true) (hf : ∀ K' : AV → List Obj → Prop, K' v h → opP E cal o ⟨sl, h⟩ K') (K' : AV → List Obj → Prop) (hK : K' v h') : opP E cal o ⟨sl, h'⟩ K' := by
  obtain ⟨X, hX⟩ := pure_ex (cal := cal) hp hq
  rw [hX]
  have := hf (fun v _ => K' v h') hK
  rwa [hX] at this

/-! ### Operands -/
section
variable {E : Env} {cal : Cal}
theorem ev_congr {sl sl' : List AV} {x : Operand} (h : ∀ t, x = .tmp t → sl.getD t .un = sl'.getD t .un) : ev E sl x = ev E sl' x := by
  cases x with
  | tmp t => exact h t rfl
  | _ => rfl
theorem opP_congr {o : Oper} {sl sl' : List AV} {h : List Obj} (hs : ∀ t ∈ opnds o, sl.getD t .un = sl'.getD t .un) (K : AV → List Obj → Prop) : opP E cal o ⟨sl, h⟩ K = opP E cal o ⟨sl', h⟩ K := by
  have he : ∀ x, x ∈ o.op.operands → ev E sl x = ev E sl' x := fun x hx => ev_congr fun t ht => hs t (by
    subst ht
    exact List.mem_filterMap.2 ⟨.tmp t, by simpa using hx, rfl⟩)
  obtain ⟨dst, op, ty, pos, after, guard⟩ := o
  have pairs : ∀ ps : Array (Nat × Operand), (∀ x ∈ ps.map (·.2), ev E sl x = ev E sl' x) → (ps.toList.map fun p => (p.1, ev E sl p.2)) = (ps.toList.map fun p => (p.1, ev E sl' p.2)) := fun ps hp =>
    List.map_congr_left fun p hm => by
      obtain ⟨i, x⟩ := p
      simp only [hp x (Array.mem_map.2 ⟨(i, x), by simpa using hm, rfl⟩)]
  have list : ∀ ps : Array Operand, (∀ x ∈ ps, ev E sl x = ev E sl' x) → ps.toList.map (ev E sl) = ps.toList.map (ev E sl') := fun ps hp => List.map_congr_left fun x hm => hp x (by simpa using hm)
  unfold opP
  cases op <;> simp only [Op.operands] at he <;> simp only
  case build t ps => rw [pairs ps fun x hx => he x (by simpa using hx)]
  case buildSlice t n ps => rw [pairs ps fun x hx => he x (by simpa using hx)]
  case makeFunc fn first captured => rw [list captured fun x hx => he x (by simp [hx])]
  case call c =>
    obtain ⟨callee, args, ts⟩ := c
    simp only [Call.operands] at he
    have ha := list args fun x hx => he x (by cases callee <;> simp [hx])
    cases callee with
    | value f => simp only [ha, he f (by simp)]
    | invoke r m => rfl
    | builtin b => simp only [ha]
  case makeMap t r => cases r <;> rfl
  case slice t x lo hi mx => cases lo <;> cases hi <;> cases mx <;> simp_all
  case next it b => cases b <;> simp_all
  all_goals first | rfl | (simp_all; done)
end

/-! ### Bits -/
theorem tb_lor (a b i : Nat) : (Nat.lor a b).testBit i = (a.testBit i || b.testBit i) := Nat.testBit_or a b i
theorem tb_pow (j b : Nat) : (Nat.pow 2 j).testBit b = decide (j = b) := Nat.testBit_two_pow
theorem tb_set {L i b : Nat} : (Nat.lor L (Nat.pow 2 i)).testBit b = true ↔ L.testBit b = true ∨ b = i := by
  rw [tb_lor, tb_pow, Bool.or_eq_true, decide_eq_true_eq]
  exact ⟨fun h => h.imp id Eq.symm, fun h => h.imp id Eq.symm⟩
theorem tb_anc {ms : List Nat} : ∀ {es : List Nat} {b : Nat}, (ancM ms es).testBit b = true ↔ ∃ j ∈ es, b = j ∨ (ms.getD j 0).testBit b = true
  | [], b => by simp [ancM]
  | j :: es, b => by
    rw [ancM, tb_lor, tb_lor, tb_pow, Bool.or_eq_true, Bool.or_eq_true, tb_anc, decide_eq_true_eq]
    constructor
    · rintro ((h | h) | ⟨k, hk, h⟩)
      · exact ⟨j, by simp, .inl h.symm⟩
      · exact ⟨j, by simp, .inr h⟩
      · exact ⟨k, by simp [hk], h⟩
    · rintro ⟨k, hk, h⟩
      rcases List.mem_cons.1 hk with rfl | hk
      · exact .inl (h.imp Eq.symm id)
      · exact .inr ⟨k, hk, h⟩
theorem ancM_congr {ms ms' : List Nat} : ∀ {es : List Nat}, (∀ j ∈ es, ms.getD j 0 = ms'.getD j 0) → ancM ms es = ancM ms' es
  | [], _ => rfl
  | j :: es, h => by rw [ancM, ancM, h j (by simp), ancM_congr fun k hk => h k (by simp [hk])]
theorem ancAll_pre : ∀ {l : List Oper} {ms : List Nat}, ∃ r, ancAll l ms = ms ++ r
  | [], ms => ⟨[], by simp [ancAll]⟩
  | o :: l, ms => by
    obtain ⟨r, hr⟩ := ancAll_pre (l := l) (ms := ms ++ [ancM ms (edges o)])
    exact ⟨ancM ms (edges o) :: r, by rw [ancAll, hr]; simp⟩
theorem getD_append {α : Type} {a b : List α} {i : Nat} {d : α} (h : i < a.length) : (a ++ b).getD i d = a.getD i d := by
  rw [List.getD_eq_getElem?_getD, List.getElem?_append_left h, ← List.getD_eq_getElem?_getD]
theorem ancAll_at : ∀ {l : List Oper} {ms : List Nat} {i : Nat} {o : Oper}, l[i]? = some o → (∀ j ∈ edges o, j < ms.length + i) → (ancAll l ms).getD (ms.length + i) 0 = ancM (ancAll l ms) (edges o)
  | [], ms, i, o, h, _ => by simp at h
  | o' :: l, ms, 0, o, h, he => by
    simp at h
    subst h
    obtain ⟨r, hr⟩ := ancAll_pre (l := l) (ms := ms ++ [ancM ms (edges o')])
    rw [ancAll, hr]
    have e1 : (ms ++ [ancM ms (edges o')] ++ r).getD (ms.length + 0) 0 = ancM ms (edges o') := by
      rw [getD_append (by simp), List.getD_eq_getElem?_getD]; simp
    rw [e1]
    refine ancM_congr fun j hj => ?_
    have := he j hj
    rw [List.append_assoc, getD_append (by omega)]
  | o' :: l, ms, i + 1, o, h, he => by
    have := ancAll_at (l := l) (ms := ms ++ [ancM ms (edges o')]) (i := i) (o := o) (by simpa using h) (fun j hj => by have := he j hj; simp; omega)
    rw [ancAll]
    simp only [List.length_append, List.length_cons, List.length_nil, Nat.zero_add] at this
    rw [show ms.length + (i + 1) = ms.length + 1 + i by omega]
    exact this

/-! ### What has been checked -/
structure OpsOK (l : List Oper) (A : List Nat) : Prop where
  back : ∀ (i : Nat) (o : Oper), l[i]? = some o → ∀ j ∈ edges o, j < i
  anc : ∀ (i : Nat) (o : Oper), l[i]? = some o → ∀ b, (A.getD i 0).testBit b = true ↔ ∃ j ∈ edges o, b = j ∨ (A.getD j 0).testBit b = true
  guard : ∀ (i : Nat) (o : Oper) (g : Nat) (w : Bool), l[i]? = some o → o.guard = some (g, w) → g ∈ edges o
  dst : ∀ (i y d : Nat), dstOf l i = some d → dstOf l y = some d → i = y
  see : ∀ (i : Nat) (o : Oper) (y d : Nat), l[i]? = some o → d ∈ opnds o → dstOf l y = some d → y = i ∨ (A.getD i 0).testBit y = true ∨ (A.getD y 0).testBit i = true
theorem dst_lt {l : List Oper} {i d : Nat} (h : dstOf l i = some d) : i < l.length ∧ ∃ o, l[i]? = some o ∧ o.dst = some d := by
  unfold dstOf at h
  cases ho : l[i]? with
  | none => rw [ho] at h; cases h
  | some o => rw [ho] at h; exact ⟨(List.getElem?_eq_some_iff.1 ho).1, o, rfl, h⟩
theorem okOps_inv {l : List Oper} (h : okOps l (ancAll l []) = true) : OpsOK l (ancAll l []) := by
  have ok : ∀ (i : Nat) (o : Oper), l[i]? = some o → okOp l (ancAll l []) i o = true := fun i o ho => by
    have := List.all_eq_true.1 h i (List.mem_range.2 (List.getElem?_eq_some_iff.1 ho).1)
    rw [ho] at this
    exact this
  have un : ∀ (i : Nat) (o : Oper), l[i]? = some o → (∀ j ∈ edges o, j < i) ∧ (∀ g w, o.guard = some (g, w) → g ∈ edges o) ∧ ∀ y d, dstOf l y = some d → y ≠ i → o.dst ≠ some d ∧ (d ∈ opnds o → ((ancAll l []).getD i 0).testBit y = true ∨ ((ancAll l []).getD y 0).testBit i = true) := by
    intro i o ho
    have h1 := ok i o ho
    simp only [okOp, Bool.and_eq_true, List.all_eq_true, Nat.blt_eq] at h1
    refine ⟨h1.1.1, fun g w hg => ?_, fun y d hd hy => ?_⟩
    · have := h1.1.2
      rw [hg] at this
      exact mem_inv.1 this
    · have := h1.2 y (List.mem_range.2 (dst_lt hd).1)
      rw [hd] at this
      simp only [Bool.or_eq_true, Bool.and_eq_true, Bool.not_eq_true'] at this
      rcases this with h2 | ⟨h2, h3⟩
      · exact absurd (Nat.eq_of_beq_eq_true h2) hy
      · refine ⟨fun e => ?_, fun hm => ?_⟩
        · rw [e] at h2; simp at h2
        · rcases h3 with (h3 | h3) | h3
          · rw [mem_inv.2 hm] at h3; cases h3
          · exact .inl h3
          · exact .inr h3
  refine ⟨fun i o ho => (un i o ho).1, fun i o ho b => ?_, fun i o g w ho => (un i o ho).2.1 g w, fun i y d hi hy => ?_, fun i o y d ho hd hy => ?_⟩
  · have := ancAll_at (l := l) (ms := []) (i := i) ho (by simpa using (un i o ho).1)
    simp only [List.length_nil, Nat.zero_add] at this
    rw [this, tb_anc]
  · obtain ⟨_, o, ho, hod⟩ := dst_lt hi
    by_cases e : y = i
    · exact e.symm
    · exact absurd hod ((un i o ho).2.2 y d hy e).1
  · by_cases e : y = i
    · exact .inl e
    · exact .inr (((un i o ho).2.2 y d hy e).2 hd)
/-- A set that holds all that must come ahead of its members. -/
theorem anc_closed {l : List Oper} {A : List Nat} (ok : OpsOK l A) {S : Nat → Prop} (hS : ∀ (i : Nat) (o : Oper), l[i]? = some o → S i → ∀ j ∈ edges o, S j) : ∀ (i : Nat) (o : Oper), l[i]? = some o → (∀ j ∈ edges o, S j) → ∀ b, (A.getD i 0).testBit b = true → S b := by
  intro i
  induction i using Nat.strongRecOn with
  | _ i ih =>
    intro o ho he b hb
    obtain ⟨j, hj, h1⟩ := (ok.anc i o ho b).1 hb
    rcases h1 with rfl | h1
    · exact he b hj
    · have hlt := ok.back i o ho j hj
      have hl := (List.getElem?_eq_some_iff.1 ho).1
      have hoj : l[j]? = some l[j] := List.getElem?_eq_getElem (by omega)
      exact ih j hlt _ hoj (hS j _ hoj (he j hj)) b h1
theorem anc_lt {l : List Oper} {A : List Nat} (ok : OpsOK l A) {i : Nat} {o : Oper} (ho : l[i]? = some o) {b : Nat} (hb : (A.getD i 0).testBit b = true) : b < i := by
  have hl := (List.getElem?_eq_some_iff.1 ho).1
  refine anc_closed ok (S := fun b => b < i) (fun k o hk hki j hj => Nat.lt_trans (ok.back k o hk j hj) hki) i o ho (fun j hj => ok.back i o ho j hj) b hb
end Go.Proofs.YtahlcbmmjfdcaaaGreatDoor.PX
