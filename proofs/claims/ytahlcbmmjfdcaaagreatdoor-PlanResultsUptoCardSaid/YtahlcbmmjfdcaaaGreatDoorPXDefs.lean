/- PX, part 1: the abstract interpreter's definitions: a predicate transformer over the model's own Code, on abstract values. Nothing is proved here. -/
import Derived.Calls
import Derived.Orders
set_option linter.all false
namespace Go.Proofs.YtahlcbmmjfdcaaaGreatDoor.PX

/-! ### Abstract values -/
/-- What is known of a slice that is data: it is nil; its capacity is its length; nothing more. -/
inductive SF | nil | tight | any

/-- Data: immutable, by value. A slice's elements are their cells. -/
inductive D
  | undef
  | int (k : IntKind) (n : Int)
  | bool (b : Bool)
  | str (s : List UInt8)
  | sl (sz : Nat) (es : List (List D)) (f : SF)
  | nilptr | nilmap | nilfn | niliface

/-- A cell's content. -/
inductive Lf
  | d (x : D)
  | ptr (id off : Nat)
  | rptr (id ver i off : Nat)
  | rop (cells : List D) (off : Nat)
  | rw (id ver : Nat)
  | rws (id ver off len : Nat)
  | map (id : Nat)
  | fn (f : FuncId) (caps : List Nat)

inductive TV | lf (x : Lf) | agg (l : List Lf)
inductive AV | one (t : TV) | tup (l : List TV) | un

inductive Obj
  | cells (l : List Lf)
  | row (sz : Nat) (es : List (List D)) (ver : Nat)
  | arr (l : List D)
  | map (agg : Bool) (kk : Option IntKind) (es : List (D × List D))
  | siter (s : List UInt8) (pos : Nat)
  | dead

abbrev AV.d (x : D) : AV := .one (.lf (.d x))
abbrev AV.lf (x : Lf) : AV := .one (.lf x)
abbrev AV.agg (l : List Lf) : AV := .one (.agg l)
abbrev AV.int (k : IntKind) (n : Int) : AV := .one (.lf (.d (.int k n)))
abbrev AV.bool (b : Bool) : AV := .one (.lf (.d (.bool b)))
abbrev AV.str (s : List UInt8) : AV := .one (.lf (.d (.str s)))

/-! ### What is told of the types -/
inductive TK
  | int (k : IntKind) | bool | str | slice (e : TypeId) | arr (n : Nat) (e : TypeId) | struct (fs : List (Nat × Nat)) | ptr (e : TypeId) | map (k e : TypeId) | func | iface | other

structure TI where
  k : TK
  size : Nat
  bytes : Nat
  zero : List D
  agg : Bool
  /-- a variable of this type is told as one row of data -/
  big : Bool := false
  /-- two values are equal if their cells are -/
  eq : Bool := false
  /-- cells that hold slices of the variable's own, and the sizes of their elements -/
  own : List (Nat × Nat) := []

structure Env where
  T : TypeId → Option TI
  G : Nat → Option (List D)
  /-- at a loop's head: the slots that live on, those that hold a slice of our own; may rows that came in have moved? -/
  adv : Nat → Option (List Nat × List (Nat × Nat) × Bool)
  /-- how many objects come in -/
  m : Nat
  /-- how many slots the function has -/
  n : Nat
  /-- the slots that live on at a block's end, at the function's end -/
  out : Nat → Option (List Nat)
  res : List Nat
  /-- parameters that are handed over to be written -/
  rwP : FuncId → List Nat
  /-- are this function's own slices handed back to be written? -/
  rwR : Bool

def Env.kind (E : Env) (t : TypeId) : Option TK := match E.T t with | some ti => some ti.k | none => none

structure St where
  slots : List AV
  heap : List Obj

/-! ### Eliminators -/
def br (b : Bool) (X Y : Prop) : Prop := match b with | true => X | false => Y
def dK (k : IntKind) (x : D) (K : Int → Prop) : Prop := match x with | .int k' n => br (k' == k) (K n) False | _ => False
def dI (x : D) (K : Int → Prop) : Prop := match x with | .int _ n => K n | _ => False
def dB (x : D) (K : Bool → Prop) : Prop := match x with | .bool b => K b | _ => False
def dS (x : D) (K : List UInt8 → Prop) : Prop := match x with | .str s => K s | _ => False
def dSl (x : D) (K : Nat → List (List D) → SF → Prop) : Prop := match x with | .sl n es f => K n es f | _ => False
def onD (v : AV) (K : D → Prop) : Prop := match v with | .one (.lf (.d x)) => K x | _ => False
def asK (k : IntKind) (v : AV) (K : Int → Prop) : Prop := onD v fun x => dK k x K
def asI (v : AV) (K : Int → Prop) : Prop := onD v fun x => dI x K
def asB (v : AV) (K : Bool → Prop) : Prop := onD v fun x => dB x K
def asS (v : AV) (K : List UInt8 → Prop) : Prop := onD v fun x => dS x K
/-- Under a condition. -/
def gd (b : Bool) (X : Prop) : Prop := match b with | true => X | false => False
/-- An element of a list, if it is there. -/
def at' {α : Type} (l : List α) (i : Nat) (K : α → Prop) : Prop := match l[i]? with | some x => K x | none => False
def takeP {α : Type} (l : List α) (off : Nat) : Nat → (List α → Prop) → Prop
  | 0, K => K []
  | n + 1, K => at' l off fun x => takeP l (off + 1) n fun xs => K (x :: xs)
def nilOK (f : SF) (n : Nat) (b : Bool) : Prop := match f with | .nil => b = true | _ => 0 < n → b = false
def nilP {α : Type} (f : SF) (es : List α) (K : Bool → Prop) : Prop := match f with | .nil => K true | _ => match es with | [] => K true ∧ K false | _ :: _ => K false

/-! ### Constants, operands -/
def cst : Value → AV
  | .int k n => .int k n
  | .bool b => .bool b
  | .string s => .str s.data.toList
  | .slice none 0 0 => .d (.sl 0 [] .nil)
  | .pointer none => .d .nilptr
  | .map none => .d .nilmap
  | .nilFunc => .d .nilfn
  | .nilIface => .d .niliface
  | _ => .un

def ev (E : Env) (sl : List AV) : Operand → AV
  | .tmp t => sl.getD t .un
  | .const v => cst v
  | .global g => match E.G g with | some l => .lf (.rop l 0) | none => .un
  | .func f => .lf (.fn f [])

/-! ### Objects: who is reached, renaming, packing -/
def Obj.isDead : Obj → Bool | .dead => true | _ => false
def refsL : Lf → List Nat
  | .ptr id _ | .rptr id _ _ _ | .rw id _ | .rws id _ _ _ | .map id => [id]
  | .fn _ caps => caps
  | _ => []
def refsT : TV → List Nat | .lf x => refsL x | .agg l => l.flatMap refsL
def refsO : Obj → List Nat | .cells l => l.flatMap refsL | _ => []
def add1 (l : List Nat) (r : Nat) : List Nat := bif l.any (Nat.beq r) then l else l ++ [r]
def addAll (l rs : List Nat) : List Nat := rs.foldl add1 l
def collect (h : List Obj) : Nat → Nat → List Nat → List Nat
  | 0, _, l => l
  | n + 1, pos, l => match l[pos]? with | none => l | some id => collect h n (pos + 1) (addAll l (refsO (h.getD id .dead)))
def idx (x : Nat) : List Nat → Nat | [] => 0 | y :: l => bif Nat.beq x y then 0 else idx x l + 1
/-- Is the handle's version its row's? -/
def cur (h : List Obj) (id ver : Nat) : Bool := match h.getD id .dead with | .row _ _ v => Nat.beq v ver | _ => false
def weakD : D → D | .sl sz es _ => .sl sz es .any | x => x
/-- As a value of this zero's kind: an empty slice's element size is its type's. -/
def castD (z x : D) : D :=
  match z, x with
  | .sl sz _ _, .sl n es f => bif Nat.beq n sz then .sl sz es f else match es with | [] => .sl sz [] f | _ => x
  | _, x => x
def castF (z x : D) : D := weakD (castD z x)
def castDs : List D → List D → List D
  | z :: zs, x :: xs => castF z x :: castDs zs xs
  | _, xs => xs
def castL (z : D) : Lf → Lf | .d x => .d (castD z x) | x => x
def castLs : List D → List Lf → List Lf
  | z :: zs, x :: xs => castL z x :: castLs zs xs
  | _, xs => xs
def castO (zs : List D) (x : Lf) : Lf := match zs with | [z] => castL z x | _ => x
def castA (zs : List D) : AV → AV | .one (.lf x) => (match zs with | [z] => .one (.lf (castL z x)) | _ => .one (.lf x)) | x => x
def zeroOf (E : Env) (t : TypeId) : List D := match E.T t with | some ti => ti.zero | none => []
/-- Leaves told of in another heap: ρ says where an object is there, ν which version its row has there. -/
def renL (h : List Obj) (ρ ν : Nat → Nat) : Lf → Lf
  | .d x => .d (weakD x)
  | .ptr id off => .ptr (ρ id) off
  | .rptr id ver i off => bif cur h id ver then .rptr (ρ id) (ν id) i off else .d .undef
  | .rop l off => .rop l off
  | .rw id ver => bif cur h id ver then .rw (ρ id) (ν id) else .d .undef
  | .rws id ver off len => bif cur h id ver then .rws (ρ id) (ν id) off len else .d .undef
  | .map id => .map (ρ id)
  | .fn f caps => .fn f (caps.map ρ)
def renT (h : List Obj) (ρ ν : Nat → Nat) : TV → TV | .lf x => .lf (renL h ρ ν x) | .agg l => .agg (l.map (renL h ρ ν))
def renO (h : List Obj) (ρ ν : Nat → Nat) (id : Nat) : Obj → Obj
  | .cells l => .cells (l.map (renL h ρ ν))
  | .row sz es _ => .row sz es (ν id)
  | o => o
def order (roots : List Nat) (h : List Obj) : List Nat := collect h (h.length + 1) 0 (addAll [] roots)
def packR (h : List Obj) (ρ ν : Nat → Nat) (ids : List Nat) : List Obj := ids.map fun id => renO h ρ ν id (h.getD id .dead)
def packO (h : List Obj) (ν : Nat → Nat) (ids : List Nat) : List Obj := packR h (idx · ids) ν ids
def verO : Obj → Nat | .row _ _ v => v | _ => 0
def verA (h : List Obj) (id : Nat) : Nat := verO (h.getD id .dead)
def mem (l : List Nat) (i : Nat) : Bool := l.any (Nat.beq i)
def nodupB : List Nat → Bool | [] => true | x :: l => !mem l x && nodupB l
/-- These are there, each once, and so is all that they reach. -/
def closed (h : List Obj) (roots ids : List Nat) : Bool := nodupB ids && (ids.all fun i => Nat.blt i h.length && (refsO (h.getD i .dead)).all (mem ids)) && roots.all (mem ids)
/-- The first m are first. -/
def firsts (m : Nat) (ids : List Nat) : Bool := (List.range m).all fun i => Nat.beq (ids.getD i m) i
/-- The version of a row behind a region's head, or a call: of our own 0; of those that came in, whether it may have moved. -/
def capV (m : Nat) (wide : Bool) (h : List Obj) (id : Nat) : Nat := bif Nat.blt id m then (bif wide then 1 else match verA h id with | 0 => 0 | _ => 1) else 0

/-! ### Slices of our own told as data -/
def convL (h : List Obj) : Lf → Lf
  | .rw id ver => match h.getD id .dead with | .row sz es v => bif Nat.beq v ver then .d (.sl sz es .any) else .d .undef | _ => .d .undef
  | .rws id ver off len => match h.getD id .dead with | .row sz es v => bif Nat.beq v ver then .d (.sl sz ((es.drop off).take len) .any) else .d .undef | _ => .d .undef
  | x => x
def convIds : Lf → List Nat | .rw id _ | .rws id _ _ _ => [id] | _ => []
def convT (h : List Obj) : TV → TV | .lf x => .lf (convL h x) | .agg l => .agg (l.map (convL h))
def convIdsT : TV → List Nat | .lf x => convIds x | .agg l => l.flatMap convIds
def kill (h : List Obj) (ids : List Nat) : List Obj := ids.foldl (fun h id => h.set id .dead) h
def flatL : Lf → Bool | .d (.sl ..) => false | .rop .. => false | _ => true
def flatT : TV → Bool | .lf x => flatL x | .agg l => l.all flatL
def flatO : Obj → Bool | .cells l => l.all flatL | .row _ es _ => es.all fun e => e.all fun x => flatL (.d x) | .arr l => l.all fun x => flatL (.d x) | .map .. => false | _ => true

/-- A leaf as data: a slice of our own is frozen. -/
def toD (x : Lf) (h : List Obj) (K : D → List Obj → Prop) : Prop :=
  match convL h x with | .d y => K y (kill h (convIds x)) | _ => False
def toDs : List Lf → List Obj → (List D → List Obj → Prop) → Prop
  | [], h, K => K [] h
  | x :: l, h, K => toD x h fun y h => toDs l h fun ys h => K (y :: ys) h
def leaves : TV → List Lf | .lf x => [x] | .agg l => l
def onT (v : AV) (K : TV → Prop) : Prop := match v with | .one t => K t | _ => False

/-! ### Operations -/
def arith (op : BinOp) (k : IntKind) (a b : Int) (K : AV → Prop) : Prop :=
  match op with
  | .add => K (.int k (k.wrap (a + b)))
  | .sub => K (.int k (k.wrap (a - b)))
  | .mul => K (.int k (k.wrap (a * b)))
  | .quo => gd (decide (b ≠ 0)) <| K (.int k (k.wrap (a.tdiv b)))
  | .rem => gd (decide (b ≠ 0)) <| K (.int k (a.tmod b))
  | .and => K (.int k (k.wrap (BitVec.ofInt k.bits a &&& BitVec.ofInt k.bits b).toNat))
  | .or => K (.int k (k.wrap (BitVec.ofInt k.bits a ||| BitVec.ofInt k.bits b).toNat))
  | .xor => K (.int k (k.wrap (BitVec.ofInt k.bits a ^^^ BitVec.ofInt k.bits b).toNat))
  | .andNot => K (.int k (k.wrap (BitVec.ofInt k.bits a &&& ~~~BitVec.ofInt k.bits b).toNat))
  | .eql => K (.bool (decide (a = b)))
  | .neq => K (.bool (!decide (a = b)))
  | .lss => K (.bool (decide (a < b)))
  | .leq => K (.bool (decide (a ≤ b)))
  | .gtr => K (.bool (decide (b < a)))
  | .geq => K (.bool (decide (b ≤ a)))
  | _ => False
def shiftP (op : BinOp) (k : IntKind) (a b : Int) (K : AV → Prop) : Prop :=
  match op with
  | .shl => gd (decide (0 ≤ b)) <| K (.int k (k.wrap (a * 2 ^ (min b.toNat k.bits))))
  | .shr => gd (decide (0 ≤ b)) <| K (.int k (a.fdiv (2 ^ (min b.toNat k.bits))))
  | _ => False
def strP (op : BinOp) (a b : List UInt8) (K : AV → Prop) : Prop :=
  match op with
  | .add => gd (decide (a.length + b.length < 2 ^ 62)) <| K (.str (a ++ b))
  | .eql => K (.bool (decide (a = b)))
  | .neq => K (.bool (!decide (a = b)))
  | .lss => K (.bool (Op.bytesLess a b))
  | .leq => K (.bool (Op.bytesLess a b || decide (a = b)))
  | .gtr => K (.bool (!(Op.bytesLess a b || decide (a = b))))
  | .geq => K (.bool (!Op.bytesLess a b))
  | _ => False
def flip (neg : Bool) (b : Bool) : Bool := match neg with | true => !b | false => b
def fixd : Obj → Bool | .row .. => false | .dead => false | _ => true
/-- Is a slice, pointer, map or function nil? -/
def isNil (k : TK) (h : List Obj) (v : AV) (K : Bool → Prop) : Prop :=
  match k, v with
  | .slice _, .one (.lf (.d x)) => dSl x fun _ es f => nilP f es K
  | .slice _, .one (.lf (.rw id ver)) => match h.getD id .dead with | .row _ es v => br (Nat.beq v ver) (nilP .any es K) False | _ => False
  | .ptr _, .one (.lf (.d .nilptr)) | .map _ _, .one (.lf (.d .nilmap)) | .func, .one (.lf (.d .nilfn)) => K true
  | .ptr _, .one (.lf (.ptr id _)) => br (fixd (h.getD id .dead)) (K false) False
  | .ptr _, .one (.lf (.rop ..)) | .func, .one (.lf (.fn ..)) => K false
  | .map _ _, .one (.lf (.map id)) => match h.getD id .dead with | .map .. => K false | _ => False
  | _, _ => False
def isNilC (k : TK) (v : AV) : Bool :=
  match k, v with
  | .slice _, .one (.lf (.d (.sl _ [] .nil))) | .ptr _, .one (.lf (.d .nilptr)) | .map _ _, .one (.lf (.d .nilmap)) | .func, .one (.lf (.d .nilfn)) => true
  | _, _ => false
def eqD (x y : D) (K : Bool → Prop) : Prop :=
  match x with
  | .int k n => dK k y fun m => K (decide (n = m))
  | .bool b => dB y fun c => K (b == c)
  | .str s => dS y fun t => K (decide (s = t))
  | _ => False
def eqL : List D → List D → (Bool → Prop) → Prop
  | [], [], K => K true
  | x :: l, y :: m, K => eqD x y fun b => br b (eqL l m K) (K false)
  | _, _, _ => False
def datas : List Lf → Option (List D)
  | [] => some []
  | .d x :: l => (datas l).map (x :: ·)
  | _ => none
/-- Read as this zero's kind. -/
def likeD (z x : D) (K : D → Prop) : Prop :=
  match z with
  | .int k _ => dK k x fun n => K (.int k n)
  | .bool _ => dB x fun b => K (.bool b)
  | .str _ => dS x fun s => K (.str s)
  | .sl sz _ _ => dSl x fun n es _ => br (Nat.beq n sz) (K (.sl sz es .any)) False
  | _ => K x
def likeL : List D → List D → (List D → Prop) → Prop
  | [], [], K => K []
  | z :: zs, x :: xs, K => likeD z x fun y => likeL zs xs fun ys => K (y :: ys)
  | _, _, _ => False
def eqA (z : List D) (l m : List Lf) (K : Bool → Prop) : Prop := match datas l, datas m with | some l, some m => likeL z l fun l => likeL z m fun m => eqL l m K | _, _ => False
def binP (E : Env) (op : BinOp) (t : TypeId) (x y : AV) (h : List Obj) (K : AV → Prop) : Prop :=
  match E.T t with
  | none => False
  | some ti =>
    match ti.k with
    | .int k =>
      match op with
      | .shl | .shr => asK k x fun a => asI y fun b => shiftP op k a b K
      | _ => asK k x fun a => asK k y fun b => arith op k a b K
    | .str => asS x fun a => asS y fun b => strP op a b K
    | .bool =>
      match op with
      | .eql => asB x fun a => asB y fun b => K (.bool (a == b))
      | .neq => asB x fun a => asB y fun b => K (.bool (!(a == b)))
      | _ => False
    | .slice _ | .ptr _ | .map _ _ | .func =>
      match op with
      | .eql => br (isNilC ti.k y) (isNil ti.k h x fun b => K (.bool b)) (br (isNilC ti.k x) (isNil ti.k h y fun b => K (.bool b)) False)
      | .neq => br (isNilC ti.k y) (isNil ti.k h x fun b => K (.bool (!b))) (br (isNilC ti.k x) (isNil ti.k h y fun b => K (.bool (!b))) False)
      | _ => False
    | .struct _ | .arr _ _ =>
      match ti.eq, op, x, y with
      | true, .eql, .one (.agg l), .one (.agg m) => eqA ti.zero l m fun b => K (.bool b)
      | true, .neq, .one (.agg l), .one (.agg m) => eqA ti.zero l m fun b => K (.bool (!b))
      | _, _, _, _ => False
    | _ => False
def unP (op : UnOp) (k : Option TI) (x : AV) (K : AV → Prop) : Prop :=
  match op with
  | .not => asB x fun b => K (.bool (!b))
  | .neg => match k with | some { k := .int k, .. } => asK k x fun a => K (.int k (k.wrap (0 - a))) | _ => False
  | .xor => match k with | some { k := .int k, .. } => asK k x fun a => K (.int k (k.wrap (BitVec.ofInt k.bits (if k.signed then -1 else k.max) ^^^ BitVec.ofInt k.bits a).toNat)) | _ => False
  | _ => False

/-- What a slice value holds. -/
def viewS (h : List Obj) (v : AV) (K : Nat → List (List D) → Prop) : Prop :=
  match v with
  | .one (.lf (.d x)) => dSl x fun sz es _ => K sz es
  | .one (.lf (.rw id ver)) => match h.getD id .dead with | .row sz es v => br (Nat.beq v ver) (K sz es) False | _ => False
  | .one (.lf (.rws id ver off len)) => match h.getD id .dead with | .row sz es v => br (Nat.beq v ver) (K sz ((es.drop off).take len)) False | _ => False
  | _ => False
def bytesD (s : List UInt8) : List (List D) := s.map fun b => [D.int .u8 b.toNat]
/-- What a slice, or a string, holds. -/
def view (E : Env) (t : TypeId) (h : List Obj) (v : AV) (K : Nat → List (List D) → Prop) : Prop :=
  match E.kind t with
  | some .str => asS v fun s => K 1 (bytesD s)
  | some (.slice _) => viewS h v K
  | _ => False
def okSz (sz n : Nat) (es : List (List D)) (K : Prop) : Prop := br (Nat.beq sz n) K (gd es.isEmpty K)
def lenP (E : Env) (t : TypeId) (v : AV) (h : List Obj) (K : AV → Prop) : Prop :=
  match E.T t with
  | none => False
  | some ti =>
    match ti.k with
    | .str => asS v fun s => K (.int .i64 s.length)
    | .slice _ =>
      match v with
      | .one (.lf (.rws id ver _ len)) => br (cur h id ver) (K (.int .i64 len)) False
      | _ => viewS h v fun _ es => K (.int .i64 es.length)
    | .arr n _ => K (.int .i64 n)
    | .map _ _ =>
      match v with
      | .one (.lf (.map id)) => match h.getD id .dead with | .map _ _ es => K (.int .i64 es.length) | _ => False
      | .one (.lf (.d .nilmap)) => K (.int .i64 0)
      | _ => False
    | _ => False

def loadD (z : List D) (l : List D) (off n : Nat) (agg : Bool) (K : AV → Prop) : Prop :=
  match agg with
  | true => takeP l off n fun xs => likeL z xs fun ys => K (.agg (ys.map .d))
  | false => at' l off fun x => likeL z [x] fun ys => at' ys 0 fun y => K (.d y)
def loadP (E : Env) (t : TypeId) (a : AV) (h : List Obj) (K : AV → Prop) : Prop :=
  match E.T t with
  | none => False
  | some ti => br (Nat.beq ti.size 0) False <|
    match a with
    | .one (.lf (.ptr id off)) =>
      match h.getD id .dead with
      | .cells l => match ti.agg with
        | true => takeP l off ti.size fun xs => K (.agg xs)
        | false => at' l off fun x => K (.lf x)
      | .arr l => loadD ti.zero l off ti.size ti.agg K
      | _ => False
    | .one (.lf (.rptr id ver i off)) =>
      match h.getD id .dead with
      | .row _ es v => br (Nat.beq v ver) (at' es i fun e => loadD ti.zero e off ti.size ti.agg K) False
      | _ => False
    | .one (.lf (.rop l off)) => loadD ti.zero l off ti.size ti.agg K
    | _ => False
def setN {α : Type} (l : List α) (off : Nat) : List α → List α
  | [] => l
  | x :: xs => setN (l.set off x) (off + 1) xs
/-- A nil slice that is stored where a slice of our own lay: an empty one of our own; the head of one: its rest is given up. -/
def renew (E : Env) (t : TypeId) (l : List Lf) (off : Nat) (x : Lf) (h : List Obj) : Lf × List Obj :=
  match x, l[off]?, E.kind t with
  | .d (.sl _ [] .nil), some (.rw ..), some (.slice e) => match E.T e with | some te => (.rw h.length 0, h ++ [.row te.size [] 0]) | none => (x, h)
  | .rws id ver 0 len, some (.rw ..), _ => match h.getD id .dead with
    | .row sz es v => match Nat.beq v ver with | true => (.rw id (ver + 1), h.set id (.row sz (es.take len) (ver + 1))) | false => (x, h)
    | _ => (x, h)
  | _, _, _ => (x, h)
def storeP (E : Env) (t : TypeId) (a v : AV) (h : List Obj) (K : List Obj → Prop) : Prop :=
  match E.T t with
  | none => False
  | some ti =>
    match a with
    | .one (.lf (.ptr id off)) =>
      match h.getD id .dead with
      | .cells l =>
        match v with
        | .one (.lf x) => br (Nat.blt off l.length && Nat.beq ti.size 1) (match renew E t l off (castO ti.zero x) h with | (x, h) => K (h.set id (.cells (l.set off x)))) False
        | .one (.agg xs) => br (Nat.ble (off + xs.length) l.length && Nat.beq ti.size xs.length) (K (h.set id (.cells (setN l off (castLs ti.zero xs))))) False
        | _ => False
      | .arr l => onT v fun v => br (Nat.beq ti.size (leaves v).length && !(convIdsT v).any (Nat.beq id)) (gd (decide (off + (leaves v).length ≤ l.length)) <| toDs (leaves v) h fun ys h => K (h.set id (.arr (setN l off (castDs ti.zero ys))))) False
      | _ => False
    | .one (.lf (.rptr id ver i off)) =>
      match h.getD id .dead with
      | .row sz es w => onT v fun v => br (Nat.beq w ver && Nat.ble (off + (leaves v).length) sz && Nat.beq ti.size (leaves v).length && !(convIdsT v).any (Nat.beq id))
          (at' es i fun e => toDs (leaves v) h fun ys h => K (h.set id (.row sz (es.set i (setN e off (castDs ti.zero ys))) w))) False
      | _ => False
    | _ => False
/-- A pointer that leads somewhere, moved on by so many cells. -/
def shiftPtr (h : List Obj) (a : AV) (n : Nat) (K : AV → Prop) : Prop :=
  match a with
  | .one (.lf (.ptr id off)) => br (fixd (h.getD id .dead)) (K (.lf (.ptr id (off + n)))) False
  | .one (.lf (.rptr id ver i off)) => br (cur h id ver) (K (.lf (.rptr id ver i (off + n)))) False
  | .one (.lf (.rop l off)) => K (.lf (.rop l (off + n)))
  | _ => False
def fieldAddrP (E : Env) (t : TypeId) (a : AV) (f : Nat) (h : List Obj) (K : AV → Prop) : Prop :=
  match E.kind t with
  | some (.struct fs) =>
    match fs[f]? with
    | some (o, n) => br (Nat.beq n 0) False (shiftPtr h a o K)
    | none => False
  | _ => False
def indexAddrP (E : Env) (t : TypeId) (a i : AV) (h : List Obj) (K : AV → Prop) : Prop :=
  match E.kind t with
  | some (.slice e) =>
    match E.T e with
    | none => False
    | some te => asI i fun i =>
      match a with
      | .one (.lf (.d x)) => dSl x fun sz es _ => okSz sz te.size es (gd (decide (0 ≤ i)) (at' es i.toNat fun e => K (.lf (.rop e 0))))
      | .one (.lf (.rw id ver)) =>
        match h.getD id .dead with
        | .row sz es v => br (Nat.beq v ver && Nat.beq sz te.size) (gd (decide (0 ≤ i ∧ i < es.length)) (K (.lf (.rptr id ver i.toNat 0)))) False
        | _ => False
      | .one (.lf (.rws id ver off len)) =>
        match h.getD id .dead with
        | .row sz _ v => br (Nat.beq v ver && Nat.beq sz te.size) (gd (decide (0 ≤ i ∧ i < len)) (K (.lf (.rptr id ver (off + i.toNat) 0)))) False
        | _ => False
      | _ => False
  | some (.arr n e) =>
    match E.T e with
    | none => False
    | some te => asI i fun i => gd (decide (0 ≤ i ∧ i < n)) (shiftPtr h a (i.toNat * te.size) K)
  | _ => False
def ownCell (p : List Lf × List Obj) (c : Nat × Nat) : List Lf × List Obj :=
  match p.1[c.1]? with
  | some (.d (.sl _ [] .nil)) => (p.1.set c.1 (.rw p.2.length 0), p.2 ++ [.row c.2 [] 0])
  | _ => p
def newP (E : Env) (t : TypeId) (xs : List Lf) (h : List Obj) (K : AV → List Obj → Prop) : Prop :=
  match E.T t with
  | none => False
  | some ti =>
    match ti.big with
    | true => toDs xs h fun ys h => K (.lf (.ptr h.length 0)) (h ++ [.arr (castDs ti.zero ys)])
    | false => match ti.own.foldl ownCell (castLs ti.zero xs, h) with | (xs, h) => K (.lf (.ptr h.length 0)) (h ++ [.cells xs])
def allocP (E : Env) (t : TypeId) (h : List Obj) (K : AV → List Obj → Prop) : Prop :=
  match E.T t with
  | none => False
  | some ti => br (Nat.beq ti.zero.length ti.size) (newP E t (ti.zero.map .d) h K) False
def boxP (E : Env) (t : TypeId) (v : AV) (h : List Obj) (K : AV → List Obj → Prop) : Prop := onT v fun v => newP E t (leaves v) h K
def fillP (fs : List (Nat × Nat)) (zs : List D) (acc : List Lf) : List (Nat × AV) → (List Lf → Prop) → Prop
  | [], K => K acc
  | (i, v) :: rest, K => match fs[i]? with
    | some (o, n) => onT v fun v => br (Nat.beq (leaves v).length n && Nat.ble (o + n) acc.length) (fillP fs zs (setN acc o (castLs ((zs.drop o).take n) (leaves v))) rest K) False
    | none => False
def buildP (E : Env) (t : TypeId) (parts : List (Nat × AV)) (K : AV → Prop) : Prop :=
  match E.T t with
  | none => False
  | some ti => br (Nat.beq ti.zero.length ti.size)
    (match ti.k with
    | .struct fs => fillP fs ti.zero (ti.zero.map .d) parts fun l => K (.agg l)
    | _ => False) False
def fillS (n : Nat) (zs : List D) (es : List (List D)) : List (Nat × AV) → List Obj → (List (List D) → List Obj → Prop) → Prop
  | [], h, K => K es h
  | (i, v) :: rest, h, K => onT v fun v => br (Nat.beq (leaves v).length n && Nat.blt i es.length) (toDs (leaves v) h fun ys h => fillS n zs (es.set i (castDs zs ys)) rest h K) False
def buildSliceP (E : Env) (t : TypeId) (len : Nat) (parts : List (Nat × AV)) (h : List Obj) (K : AV → List Obj → Prop) : Prop :=
  match E.kind t with
  | some (.slice e) =>
    match E.T e with
    | none => False
    | some te => br (Nat.ble (len * te.size) (2 ^ 24) && Nat.beq te.zero.length te.size)
        (fillS te.size te.zero (List.replicate len te.zero) parts h fun es h => K (.lf (.rw h.length 0)) (h ++ [.row te.size es 0])) False
  | _ => False
def bound (x : Option AV) (d : Int) (K : Int → Prop) : Prop := match x with | none => K d | some v => asI v K
def sliceP (E : Env) (t : TypeId) (x : AV) (lo hi mx : Option AV) (h : List Obj) (K : AV → Prop) : Prop :=
  match E.kind t with
  | some .str =>
    match mx with
    | none => asS x fun s => bound hi s.length fun j => bound lo 0 fun i => gd (decide (0 ≤ i ∧ i ≤ j ∧ j ≤ s.length)) (K (.str ((s.take j.toNat).drop i.toNat)))
    | some _ => False
  | some (.slice e) =>
    match E.T e with
    | none => False
    | some te =>
    match x with
    | .one (.lf (.d x)) => dSl x fun sz es _ => okSz sz te.size es
        (match mx with
        | none => bound hi es.length fun j => bound lo 0 fun i => gd (decide (0 ≤ i ∧ i ≤ j ∧ j ≤ es.length)) (K (.d (.sl sz ((es.take j.toNat).drop i.toNat) .any)))
        | some m => match hi with
          | none => False
          | some hi => asI m fun m => asI hi fun j => bound lo 0 fun i => gd (decide (0 ≤ i ∧ i ≤ j ∧ j ≤ m ∧ m ≤ es.length)) (br (decide (j = m)) (K (.d (.sl sz ((es.take j.toNat).drop i.toNat) .tight))) (K (.d .undef))))
    | .one (.lf (.rw id ver)) =>
      match h.getD id .dead with
      | .row sz es v => br (Nat.beq v ver && Nat.beq sz te.size)
          (match mx with
          | none => bound hi es.length fun j => bound lo 0 fun i => gd (decide (0 ≤ i ∧ i ≤ j ∧ j ≤ es.length)) (K (.lf (.rws id ver i.toNat (j.toNat - i.toNat))))
          | some m => match hi with
            | none => False
            | some hi => asI m fun m => asI hi fun j => bound lo 0 fun i => gd (decide (0 ≤ i ∧ i ≤ j ∧ j ≤ m ∧ m ≤ es.length)) (K (.d .undef))) False
      | _ => False
    | .one (.lf (.rws id ver off len)) =>
      match h.getD id .dead with
      | .row sz es v => br (Nat.beq v ver && Nat.beq sz te.size)
          (match mx with
          | none => bound hi len fun j => bound lo 0 fun i => gd (decide (0 ≤ i ∧ i ≤ j ∧ off + j ≤ es.length)) (K (.lf (.rws id ver (off + i.toNat) (j.toNat - i.toNat))))
          | some _ => False) False
      | _ => False
    | _ => False
  | _ => False
def indexP (E : Env) (t : TypeId) (x i : AV) (K : AV → Prop) : Prop :=
  match E.kind t with
  | some .str => asS x fun s => asI i fun i => gd (decide (0 ≤ i)) (at' s i.toNat fun b => K (.int .u8 b.toNat))
  | some (.arr n e) =>
    match E.T e, x with
    | some te, .one (.agg l) => asI i fun i => gd (decide (0 ≤ i ∧ i < n)) (match te.agg with | true => False | false => at' l (i.toNat * te.size) fun x => K (.lf x))
    | _, _ => False
  | _ => False
def extractP (v : AV) (i : Nat) (K : AV → Prop) : Prop := match v with | .tup l => at' l i fun x => K (.one x) | _ => False
def ptrIds : List AV → Option (List Nat)
  | [] => some []
  | .one (.lf (.ptr id 0)) :: l => (ptrIds l).map (id :: ·)
  | _ => none
def keyEq : D → D → Bool
  | .str a, .str b => decide (a = b)
  | .int _ a, .int _ b => decide (a = b)
  | .bool a, .bool b => a == b
  | _, _ => false
def isKey : D → Bool | .str _ | .int _ _ | .bool _ => true | _ => false
def mget (k : D) : List (D × List D) → Option (List D)
  | [] => none
  | e :: es => match keyEq k e.1 with | true => some e.2 | false => mget k es
def mset (k : D) (v : List D) : List (D × List D) → List (D × List D)
  | [] => [(k, v)]
  | e :: es => match keyEq k e.1 with | true => (k, v) :: es | false => e :: mset k v es
/-- A key of the map's kind. -/
def keyKind (E : Env) (kt : TypeId) : Option (Option IntKind) := match E.kind kt with | some .str => some none | some (.int k) => some (some k) | _ => none
def onKey (kk : Option IntKind) (v : AV) (K : D → Prop) : Prop :=
  match kk with
  | none => asS v fun s => K (.str s)
  | some k => asK k v fun n => K (.int k n)
def kkEq : Option IntKind → Option IntKind → Bool | none, none => true | some a, some b => a == b | _, _ => false
def lookOut (ok : Bool) (b : Bool) (x : TV) (K : AV → Prop) : Prop := match ok with | true => K (.tup [x, .lf (.d (.bool b))]) | false => K (.one x)
def lookGo (te : TI) (ok : Bool) (k : D) (es : List (D × List D)) (K : AV → Prop) : Prop :=
  let v := (mget k es).getD te.zero
  match te.agg with
  | true => gd (Nat.beq v.length te.size) <| takeP v 0 te.size fun xs => likeL te.zero xs fun ys => lookOut ok (mget k es).isSome (.agg (ys.map .d)) K
  | false => at' v 0 fun x => likeL te.zero [x] fun ys => at' ys 0 fun y => lookOut ok (mget k es).isSome (.lf (.d y)) K
def lookupP (E : Env) (t : TypeId) (m k : AV) (ok : Bool) (h : List Obj) (K : AV → Prop) : Prop :=
  match E.kind t with
  | some (.map kt et) =>
    match E.T et, keyKind E kt with
    | some te, some kk => br (Nat.beq te.zero.length te.size) (onKey kk k fun k =>
      match m with
      | .one (.lf (.map id)) => match h.getD id .dead with | .map ag kk' es => br (ag == te.agg && kkEq kk' kk) (lookGo te ok k es K) False | _ => False
      | .one (.lf (.d .nilmap)) => lookGo te ok k [] K
      | _ => False) False
    | _, _ => False
  | _ => False
def mapSetP (E : Env) (t : TypeId) (m k v : AV) (h : List Obj) (K : List Obj → Prop) : Prop :=
  match E.kind t, m with
  | some (.map kt et), .one (.lf (.map id)) =>
    match keyKind E kt with
    | none => False
    | some kk => onKey kk k fun k => onT v fun v =>
      match h.getD id .dead with
      | .map ag kk' es => br ((ag == (match v with | .agg _ => true | .lf _ => false)) && kkEq kk' kk && (convIdsT v).isEmpty) (toDs (leaves v) h fun ys h => K (h.set id (.map ag kk' (mset k (castDs (zeroOf E et) ys) es)))) False
      | _ => False
  | _, _ => False
def appendP (E : Env) (t t2 : TypeId) (x y : AV) (h : List Obj) (K : AV → List Obj → Prop) : Prop :=
  match E.kind t with
  | some (.slice e) =>
    match E.T e with
    | none => False
    | some te => br (Nat.blt 0 te.bytes && Nat.beq te.zero.length te.size) (view E t2 h y fun sz2 es2 => okSz sz2 te.size es2
      (match x with
      | .one (.lf (.d x)) => dSl x fun _ es f =>
        match f with
        | .any => False
        | _ => gd (es.isEmpty && decide (es2.length * te.bytes ≤ 2 ^ 47)) <| K (.lf (.rw h.length 0)) (h ++ [.row te.size es2 0])
      | .one (.lf (.rw id ver)) =>
        match h.getD id .dead with
        | .row sz es v => br (Nat.beq v ver && Nat.beq sz te.size) (gd (decide ((es.length + es2.length) * te.bytes ≤ 2 ^ 47)) <| K (.lf (.rw id (ver + 1))) (h.set id (.row sz (es ++ es2) (ver + 1)))) False
        | _ => False
      | .one (.lf (.rws id ver off len)) =>
        match h.getD id .dead with
        | .row sz es v => br (Nat.beq v ver && Nat.beq sz te.size) (gd (decide ((len + es2.length) * te.bytes ≤ 2 ^ 47)) <|
            br (decide (off + len + es2.length ≤ es.length))
              (K (.lf (.rws id ver off (len + es2.length))) (h.set id (.row sz (es.take (off + len) ++ es2 ++ es.drop (off + len + es2.length)) v)))
              (gd (Nat.beq off 0) <| K (.lf (.rw id (ver + 1))) (h.set id (.row sz (es.take len ++ es2) (ver + 1))))) False
        | _ => False
      | _ => False)) False
  | _ => False
def copyP (E : Env) (t t2 : TypeId) (x y : AV) (h : List Obj) (K : AV → List Obj → Prop) : Prop :=
  match E.kind t with
  | some (.slice e) =>
    match E.T e with
    | none => False
    | some te => view E t2 h y fun sz2 es2 => okSz sz2 te.size es2
      (let go (id ver off len : Nat) : Prop :=
        match h.getD id .dead with
        | .row sz es v => br (Nat.beq v ver && Nat.beq sz te.size)
            (let n := min es2.length len
             K (.int .i64 n) (h.set id (.row sz (es.take off ++ es2.take n ++ es.drop (off + n)) v))) False
        | _ => False
      match x with
      | .one (.lf (.rw id ver)) => match h.getD id .dead with | .row _ es _ => go id ver 0 es.length | _ => False
      | .one (.lf (.rws id ver off len)) => go id ver off len
      | _ => False)
  | _ => False
def clearP (E : Env) (t : TypeId) (x : AV) (h : List Obj) (K : AV → List Obj → Prop) : Prop :=
  match E.kind t with
  | some (.slice e) =>
    match E.T e with
    | none => False
    | some te =>
      match x with
      | .one (.lf (.rws id ver off len)) =>
        match h.getD id .dead with
        | .row sz es v => br (Nat.beq v ver && Nat.beq sz te.size && Nat.beq te.zero.length te.size)
            (K .un (h.set id (.row sz (es.take off ++ List.replicate len te.zero ++ es.drop (off + len)) v))) False
        | _ => False
      | _ => False
  | _ => False
def mmOf (mx : Bool) (a b : Int) : Int := match mx with | true => if a < b then b else a | false => if b < a then b else a
def mmGo (mx : Bool) (a : Int) : List AV → (Int → Prop) → Prop
  | [], K => K a
  | y :: l, K => asK .i64 y fun b => mmGo mx (mmOf mx a b) l K
def mmP (mx : Bool) : List AV → (Int → Prop) → Prop
  | [], _ => False
  | x :: l, K => asK .i64 x fun a => mmGo mx a l K
def makeSliceP (E : Env) (t : TypeId) (l c : AV) (h : List Obj) (K : AV → List Obj → Prop) : Prop :=
  match E.kind t with
  | some (.slice e) =>
    match E.T e with
    | none => False
    | some te => asK .i64 l fun l => asK .i64 c fun c => br (Nat.beq te.zero.length te.size)
        (gd (decide (0 ≤ l ∧ l ≤ c ∧ c * te.bytes ≤ 2 ^ 47 ∧ c ≤ 2 ^ 47)) <| K (.lf (.rw h.length 0)) (h ++ [.row te.size (List.replicate l.toNat te.zero) 0])) False
  | _ => False
def convP (E : Env) (a b : TypeId) (x : AV) (h : List Obj) (K : AV → List Obj → Prop) : Prop :=
  match E.kind a, E.kind b with
  | some (.int _), some (.int k) => asI x fun n => K (.int k (k.wrap n)) h
  | some .str, some .str => asS x fun s => K (.str s) h
  | some .str, some (.slice e) =>
    match E.kind e with
    | some (.int .u8) => False
    | _ => False
  | some (.slice e), some .str =>
    match E.kind e with
    | some (.int .u8) => viewS h x fun _ es => ∃ s : List UInt8, es = bytesD s ∧ K (.str s) h
    | _ => False
  | _, _ => False

/-! ### Calls -/
abbrev Cal := FuncId → List TV → List Obj → (List TV → List Obj → Prop) → Prop
def tvs : List AV → Option (List TV)
  | [] => some []
  | .one t :: l => (tvs l).map (t :: ·)
  | _ => none
def retV : List TV → AV | [t] => .one t | l => .tup l
def lend (h : List Obj) (rw : List Nat) : Nat → List TV → List TV
  | _, [] => []
  | i, t :: l => (bif rw.any (Nat.beq i) then t else convT h t) :: lend h rw (i + 1) l
def lentIds (rw : List Nat) : Nat → List TV → List Nat
  | _, [] => []
  | i, t :: l => (bif rw.any (Nat.beq i) then [] else convIdsT t) ++ lentIds rw (i + 1) l
def back (h : List Obj) : List Nat → List Obj → List Obj
  | [], _ => h
  | id :: ids, o :: os => back (h.set id o) ids os
  | _ :: _, [] => h
def callP (E : Env) (cal : Cal) (g : FuncId) (args : List TV) (h : List Obj) (K : AV → List Obj → Prop) : Prop :=
  let args1 := lend h (E.rwP g) 0 args
  let lent := lentIds (E.rwP g) 0 args
  let h1 := kill h lent
  let roots := args1.flatMap refsT
  let ids := order roots h1
  br (closed h1 roots ids && !(lent.any (mem ids))) (
  cal g (args1.map (renT h1 (idx · ids) fun _ => 0)) (packO h1 (fun _ => 0) ids) fun res h3 =>
    let m := ids.length
    let ρ := fun j => bif Nat.blt j m then ids.getD j 0 else h.length + (j - m)
    let ν := fun j => bif Nat.blt j m then verA h1 (ids.getD j 0) + verA h3 j else verA h3 j
    let os := packR h3 ρ ν (List.range h3.length)
    let hq := match (match lent with | [] => true | _ => res.all flatT && h3.all flatO) with | true => h | false => h1
    K (retV (res.map (renT h3 ρ ν))) (back hq ids os ++ os.drop m)) False
def builtinP (E : Env) (b : Builtin) (ts : List TypeId) (args : List AV) (h : List Obj) (K : AV → List Obj → Prop) : Prop :=
  match b, ts, args with
  | .len, t :: _, [x] => lenP E t x h fun v => K v h
  | .append, t :: t2 :: _, [x, y] => appendP E t t2 x y h K
  | .copy, t :: t2 :: _, [x, y] => copyP E t t2 x y h K
  | .clear, t :: _, [x] => clearP E t x h K
  | .max, _, l => mmP true l fun n => K (.int .i64 n) h
  | .min, _, l => mmP false l fun n => K (.int .i64 n) h
  | _, _, _ => False
def castVs (E : Env) : List TypeId → List AV → List AV
  | t :: ts, v :: vs => castA (zeroOf E t) v :: castVs E ts vs
  | _, vs => vs
def opP (E : Env) (cal : Cal) (o : Oper) (s : St) (K : AV → List Obj → Prop) : Prop :=
  let e := ev E s.slots
  let h := s.heap
  match o.op with
  | .move x | .assign x => K (castA (zeroOf E o.type) (e x)) h
  | .pick c a b => asB (e c) fun t => br t (K (e a) h) (K (e b) h)
  | .alloc t => allocP E t h K
  | .box t x => boxP E t (e x) h K
  | .build t ps => buildP E t (ps.toList.map fun p => (p.1, e p.2)) fun v => K v h
  | .buildSlice t n ps => buildSliceP E t n (ps.toList.map fun p => (p.1, e p.2)) h K
  | .load t a => loadP E t (e a) h fun v => K v h
  | .store t a x => storeP E t (e a) (e x) h fun h => K .un h
  | .nilCheck x =>
    shiftPtr h (e x) 0 fun v => K v h
  | .binOp op t x y _ => binP E op t (e x) (e y) h fun v => K v h
  | .unOp op t x => unP op (E.T t) (e x) fun v => K v h
  | .convert a b x => convP E a b (e x) h K
  | .makeFunc fn first caps =>
    match fn, first.toList, ptrIds (caps.toList.map e) with
    | .func f, [], some ids => K (.lf (.fn f ids)) h
    | _, _, _ => False
  | .makeMap t none =>
    match E.kind t with
    | some (.map kt et) => match E.T et, keyKind E kt with | some te, some kk => K (.lf (.map h.length)) (h ++ [.map te.agg kk []]) | _, _ => False
    | _ => False
  | .makeSlice t l c => makeSliceP E t (e l) (e c) h K
  | .slice t x lo hi mx => sliceP E t (e x) (lo.map e) (hi.map e) (mx.map e) h fun v => K v h
  | .fieldAddr t x f => fieldAddrP E t (e x) f h fun v => K v h
  | .indexAddr t x i => indexAddrP E t (e x) (e i) h fun v => K v h
  | .index t x i => indexP E t (e x) (e i) fun v => K v h
  | .lookup t x k ok => lookupP E t (e x) (e k) ok h fun v => K v h
  | .mapUpdate t m k x | .insert t m k x => mapSetP E t (e m) (e k) (e x) h fun h => K .un h
  | .extract t i => extractP (e t) i fun v => K v h
  | .range t x =>
    match E.kind t with
    | some .str => asS (e x) fun s => K (.lf (.ptr h.length 0)) (h ++ [.siter s 0])
    | _ => False
  | .next it true =>
    match e it with
    | .one (.lf (.ptr id 0)) =>
      match h.getD id .dead with
      | .siter s pos => br (Nat.blt pos s.length)
          (match Utf8.decode ⟨s.toArray⟩ pos with
           | (c, n) => K (.tup [.lf (.d (.bool true)), .lf (.d (.int .i64 pos)), .lf (.d (.int .i32 c))]) (h.set id (.siter s (pos + n))))
          (K (.tup [.lf (.d (.bool false))]) h)
      | _ => False
    | _ => False
  | .call c =>
    match c.callee with
    | .builtin b => builtinP E b c.argTypes.toList (c.args.toList.map e) h K
    | .value f =>
      match e f, tvs (castVs E c.argTypes.toList (c.args.toList.map e)) with
      | .one (.lf (.fn g caps)), some args => callP E cal g (args ++ caps.map fun id => .lf (.ptr id 0)) h K
      | _, _ => False
    | _ => False
  | _ => False

/-! ### Regions -/
def put (s : St) (dst : Option Nat) (v : AV) (h : List Obj) : St := ⟨match dst with | some d => s.slots.set d v | none => s.slots, h⟩
/-- A slot whose Bool is decided. -/
def lit (s : St) (d : Nat) (b : Bool) : St := ⟨s.slots.set d (.bool b), s.heap⟩
def litC (c : Operand) (s : St) (b : Bool) : St := match c with | .tmp d => lit s d b | _ => s
def guardP (ops : List Oper) (o : Oper) (s : St) (X Y : St → Prop) : Prop :=
  match o.guard with
  | none => X s
  | some (j, want) =>
    match (ops[j]?).bind (·.dst) with
    | some d => asB (s.slots.getD d .un) fun b => br b (match want with | true => X (lit s d true) | false => Y (lit s d true)) (match want with | true => Y (lit s d false) | false => X (lit s d false))
    | none => False
def regP (E : Env) (cal : Cal) (ops : List Oper) : List Oper → St → (St → Prop) → Prop
  | [], s, K => K s
  | o :: rest, s, K => guardP ops o s (fun s => opP E cal o s fun v h => regP E cal ops rest (put s o.dst v h) K) (fun s => regP E cal ops rest (put s o.dst .un s.heap) K)
/-- Ahead of a region: what lives on, in its canonical form. -/
def ownNil (s : List AV × List Obj) (c : Nat × Nat) : List AV × List Obj :=
  match s.1[c.1]? with
  | some (.one (.lf (.d (.sl n [] .nil)))) => (s.1.set c.1 (.lf (.rw s.2.length 0)), s.2 ++ [.row n [] 0])
  | _ => s
def renA (h : List Obj) (ρ ν : Nat → Nat) : AV → AV | .one t => .one (renT h ρ ν t) | .tup l => .tup (l.map (renT h ρ ν)) | .un => .un
/-- The slots that live on, in their order; these spread out again. -/
def pickL (live : List Nat) (sl : List AV) : List AV := live.map fun i => sl.getD i .un
def spreadGo : List Nat → List AV → List AV → List AV
  | i :: live, v :: vs, sl => spreadGo live vs (sl.set i v)
  | _, _, sl => sl
def spread (n : Nat) (live : List Nat) (vs : List AV) : List AV := spreadGo live vs (List.replicate n .un)
def refsA : AV → List Nat | .one t => refsT t | .tup l => l.flatMap refsT | .un => []
/-- What nobody reaches. -/
def lost (m : Nat) (vs : List AV) (h : List Obj) : List Nat := let ids := order (List.range m ++ vs.flatMap refsA) h; (List.range h.length).filter fun i => !mem ids i
def forget (E : Env) (live : List Nat) (s : St) : St := ⟨spread E.n live (pickL live s.slots), kill s.heap (lost E.m (pickL live s.slots) s.heap)⟩
def forgetX (E : Env) (id : Nat) (s : St) : St := match E.out id with | some live => forget E live s | none => s
def normP (E : Env) (id : Nat) (m : Nat) (s : St) (K : List AV → List Obj → Prop) : Prop :=
  match E.adv id with
  | none => False
  | some (live, own, wide) =>
    match own.foldl ownNil (s.slots, s.heap) with
    | (sl, h) =>
      let vs := pickL live sl
      let roots := List.range m ++ vs.flatMap refsA
      let ids := order roots h
      br (closed h roots ids && firsts m ids) (K (vs.map (renA h (idx · ids) (capV m wide h))) (packO h (capV m wide h) ids)) False

/-! ### Code -/
inductive Ex | normal | exit (id : Nat) | ret
/-- A loop's name: its first region's. -/
def lid : Code → Nat
  | .region id _ _ => id
  | .seq a _ => lid a
  | .block _ c => lid c
  | .loop c => lid c
  | _ => 0
abbrev Lps := Nat → List AV → List Obj → (Ex → St → Prop) → Prop
def liveOf (E : Env) (id : Nat) : List Nat := match E.adv id with | some (live, _, _) => live | none => []
/-- So many rounds; m: how many objects came in. -/
def iterP (E : Env) (m id : Nat) (body : St → (Ex → St → Prop) → Prop) : Nat → List AV → List Obj → (Ex → St → Prop) → Prop
  | 0, _, _, _ => False
  | k + 1, vs, h, K => body ⟨spread E.n (liveOf E id) vs, h⟩ fun e s' => match e with | .normal => normP E id m s' fun vs h => iterP E m id body k vs h K | .exit i => K (.exit i) s' | .ret => K .ret s'
/-- A cut's name: where several ways meet, or a branch begins. -/
def cutId (c : Code) : Nat := 1000000 + lid c
/-- Into this code, at a cut or not. -/
def enterP (E : Env) (lp : Lps) (m : Nat) (c : Code) (ex : St → (Ex → St → Prop) → Prop) (s : St) (K : Ex → St → Prop) : Prop :=
  match E.adv (cutId c) with
  | none => ex s K
  | some _ => normP E (cutId c) m s fun vs h => lp (cutId c) vs h K
/-- lp: what is known of the loops, and behind the cuts. -/
def execP (E : Env) (cal : Cal) (lp : Lps) (drawP : List Oper → St → (St → Prop) → Prop) (m : Nat) : Code → St → (Ex → St → Prop) → Prop
  | .skip, s, K => K .normal s
  | .label _, s, K => K .normal s
  | .region _ ops draw, s, K => match draw with
    | true => drawP ops.toList s (K .normal)
    | false => regP E cal ops.toList ops.toList s (K .normal)
  | .seq a b, s, K => execP E cal lp drawP m a s fun e s' => match e with | .normal => enterP E lp m b (execP E cal lp drawP m b) s' K | .exit i => K (.exit i) s' | .ret => K .ret s'
  | .cond c a b, s, K => asB (ev E s.slots c) fun t => br t (enterP E lp m a (execP E cal lp drawP m a) (litC c s true) K) (enterP E lp m b (execP E cal lp drawP m b) (litC c s false) K)
  | .block id c, s, K => execP E cal lp drawP m c s fun e s' => match e with | .exit i => (match Nat.beq i id with | true => K .normal s' | false => K (.exit i) s') | .normal => K .normal s' | .ret => K .ret s'
  | .loop c, s, K => normP E (lid c) m s fun vs h => lp (lid c) vs h K
  | .exit id, s, K => K (.exit id) (forgetX E id s)
  | .ret, s, K => K .ret (forget E E.res s)
  | _, _, _ => False
/-- At a piece's normal end its dead slots are forgotten. -/
def KF (E : Env) (id : Nat) (K : Ex → St → Prop) (e : Ex) (s : St) : Prop := match e with | .normal => K .normal (forgetX E id s) | .exit i => K (.exit i) s | .ret => K .ret s
def CutOK (E : Env) (lp : Lps) (c : Code) (ex : St → (Ex → St → Prop) → Prop) : Prop := E.adv (cutId c) ≠ none → ∀ vs h K, lp (cutId c) vs h K → ex ⟨spread E.n (liveOf E (cutId c)) vs, h⟩ (KF E (cutId c) K)
/-- What is known of the loops is so. -/
def LoopsOK (E : Env) (cal : Cal) (lp : Lps) (drawP : List Oper → St → (St → Prop) → Prop) (m : Nat) : Code → Prop
  | .seq a b => LoopsOK E cal lp drawP m a ∧ LoopsOK E cal lp drawP m b ∧ CutOK E lp b (execP E cal lp drawP m b)
  | .cond _ a b => LoopsOK E cal lp drawP m a ∧ LoopsOK E cal lp drawP m b ∧ CutOK E lp a (execP E cal lp drawP m a) ∧ CutOK E lp b (execP E cal lp drawP m b)
  | .block _ c => LoopsOK E cal lp drawP m c
  | .loop c => (∀ vs h K, lp (lid c) vs h K → ∃ k, iterP E m (lid c) (execP E cal lp drawP m c) k vs h K) ∧ LoopsOK E cal lp drawP m c
  | _ => True

/-! ### Functions -/
def resP (E : Env) (s : St) : List ResultVar → (List TV → Prop) → Prop
  | [], K => K []
  | .tmp t :: l, K => onT (s.slots.getD t .un) fun x => resP E s l fun xs => K (x :: xs)
  | .cell a t :: l, K => loadP E t (s.slots.getD a .un) s.heap fun v => onT v fun x => resP E s l fun xs => K (x :: xs)
def leaveP (E : Env) (m : Nat) (res : List TV) (h : List Obj) (K : List TV → List Obj → Prop) : Prop :=
  match (match E.rwR with | true => (res, h) | false => (res.map (convT h), kill h (res.flatMap convIdsT))) with
  | (res, h) =>
    let roots := List.range m ++ res.flatMap refsT
    let ids := order roots h
    br (closed h roots ids && firsts m ids) (K (res.map (renT h (idx · ids) (capV m false h))) (packO h (capV m false h) ids)) False
def bodyP (E : Env) (cal : Cal) (lp : Lps) (drawP : List Oper → St → (St → Prop) → Prop) (fn : Func) (args : List TV) (h : List Obj) (K : List TV → List Obj → Prop) : Prop :=
  match fn.body with
  | none => False
  | some c => execP E cal lp drawP h.length c ⟨args.map .one ++ List.replicate (E.n - args.length) .un, h⟩ fun e s =>
      match e with
      | .exit _ => False
      | _ => resP E s fn.results.toList fun res => leaveP E h.length res s.heap K
end Go.Proofs.YtahlcbmmjfdcaaaGreatDoor.PX
