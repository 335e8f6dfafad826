/- PX, part 19: words that the printed functions use: reading, tables of callees and of pieces; how a printed function is shown to be the call's answer. -/
import Derived.Test.YtahlcbmmjfdcaaaGreatDoorPXDrawn
import Derived.KernelRfl
set_option linter.all false
namespace Go.Proofs.YtahlcbmmjfdcaaaGreatDoor.PX
set_option linter.unusedVariables false

/-! ### Reading cells, numbers -/
def rI (k : IntKind) (l : List D) (off : Nat) (K : Int → Prop) : Prop := at' l off fun x => dK k x K
def rB (l : List D) (off : Nat) (K : Bool → Prop) : Prop := at' l off fun x => dB x K
def rS (l : List D) (off : Nat) (K : List UInt8 → Prop) : Prop := at' l off fun x => dS x K
def rL (sz : Nat) (l : List D) (off : Nat) (K : List (List D) → Prop) : Prop := at' l off fun x => dSl x fun n es _ => br (Nat.beq n sz) (K es) False
def bAnd (k : IntKind) (a b : Int) : Int := k.wrap (BitVec.ofInt k.bits a &&& BitVec.ofInt k.bits b).toNat
def bOr (k : IntKind) (a b : Int) : Int := k.wrap (BitVec.ofInt k.bits a ||| BitVec.ofInt k.bits b).toNat
def bXor (k : IntKind) (a b : Int) : Int := k.wrap (BitVec.ofInt k.bits a ^^^ BitVec.ofInt k.bits b).toNat
def bAndNot (k : IntKind) (a b : Int) : Int := k.wrap (BitVec.ofInt k.bits a &&& ~~~BitVec.ofInt k.bits b).toNat
def bNot (k : IntKind) (a : Int) : Int := k.wrap (BitVec.ofInt k.bits (if k.signed then -1 else k.max) ^^^ BitVec.ofInt k.bits a).toNat
def shL (k : IntKind) (a b : Int) : Int := k.wrap (a * 2 ^ (min b.toNat k.bits))
def shR (k : IntKind) (a b : Int) : Int := k.wrap (a.fdiv (2 ^ (min b.toNat k.bits)))

/-! ### Shapes taken apart -/
def tc {α : Type} (l : List α) (K : α → List α → Prop) : Prop := match l with | x :: r => K x r | [] => False
def tn {α : Type} (l : List α) (X : Prop) : Prop := match l with | [] => X | _ :: _ => False
def vO (v : AV) (K : TV → Prop) : Prop := match v with | .one t => K t | _ => False
def vT (v : AV) (K : List TV → Prop) : Prop := match v with | .tup l => K l | _ => False
def vU (v : AV) (X : Prop) : Prop := match v with | .un => X | _ => False
def tL (t : TV) (K : Lf → Prop) : Prop := match t with | .lf x => K x | _ => False
def tA (t : TV) (K : List Lf → Prop) : Prop := match t with | .agg l => K l | _ => False
def qI (k : IntKind) (x : Lf) (K : Int → Prop) : Prop := match x with | .d y => dK k y K | _ => False
def qB (x : Lf) (K : Bool → Prop) : Prop := match x with | .d y => dB y K | _ => False
def qS (x : Lf) (K : List UInt8 → Prop) : Prop := match x with | .d y => dS y K | _ => False
def qL (sz : Nat) (x : Lf) (K : List (List D) → Prop) : Prop := match x with | .d (.sl n es .any) => br (Nat.beq n sz) (K es) False | _ => False
def qN (sz : Nat) (x : Lf) (X : Prop) : Prop := match x with | .d (.sl n [] .nil) => br (Nat.beq n sz) X False | _ => False
def qD (x : Lf) (K : D → Prop) : Prop := match x with | .d y => K y | _ => False
/-- a datum of its own kind: no memory behind it -/
def dtag : D → Nat | .undef => 0 | .nilptr => 1 | .nilmap => 2 | .nilfn => 3 | .niliface => 4 | _ => 5
def qC (c : Nat) (x : Lf) (X : Prop) : Prop := match x with | .d y => (match Nat.beq c 5 with | true => False | false => br (Nat.beq (dtag y) c) X False) | _ => False
def qP (id : Nat) (x : Lf) (K : Nat → Prop) : Prop := match x with | .ptr i o => br (Nat.beq i id) (K o) False | _ => False
def qPl (id off : Nat) (x : Lf) (X : Prop) : Prop := match x with | .ptr i o => br (Nat.beq i id && Nat.beq o off) X False | _ => False
def qR (id ver off : Nat) (x : Lf) (K : Nat → Prop) : Prop := match x with | .rptr i v j o => br (Nat.beq i id && Nat.beq v ver && Nat.beq o off) (K j) False | _ => False
def qO (off : Nat) (x : Lf) (K : List D → Prop) : Prop := match x with | .rop l o => br (Nat.beq o off) (K l) False | _ => False
def qW (id ver : Nat) (x : Lf) (X : Prop) : Prop := match x with | .rw i v => br (Nat.beq i id && Nat.beq v ver) X False | _ => False
def qWs (id ver : Nat) (x : Lf) (K : Nat → Nat → Prop) : Prop := match x with | .rws i v o n => br (Nat.beq i id && Nat.beq v ver) (K o n) False | _ => False
def qM (id : Nat) (x : Lf) (X : Prop) : Prop := match x with | .map i => br (Nat.beq i id) X False | _ => False
def beqN : List Nat → List Nat → Bool | [], [] => true | x :: l, y :: m => Nat.beq x y && beqN l m | _, _ => false
def qF (f : FuncId) (caps : List Nat) (x : Lf) (X : Prop) : Prop := match x with | .fn g cs => br (Nat.beq g f && beqN cs caps) X False | _ => False
def oC (o : Obj) (K : List Lf → Prop) : Prop := match o with | .cells l => K l | _ => False
def oR (sz ver : Nat) (o : Obj) (K : List (List D) → Prop) : Prop := match o with | .row n es v => br (Nat.beq n sz && Nat.beq v ver) (K es) False | _ => False
def oA (o : Obj) (K : List D → Prop) : Prop := match o with | .arr l => K l | _ => False
def oM (ag : Bool) (kk : Option IntKind) (o : Obj) (K : List (D × List D) → Prop) : Prop := match o with | .map a k es => br (a == ag && kkEq k kk) (K es) False | _ => False
def oS (o : Obj) (K : List UInt8 → Nat → Prop) : Prop := match o with | .siter s p => K s p | _ => False
def oD (o : Obj) (X : Prop) : Prop := match o with | .dead => X | _ => False
theorem tc_inv {α : Type} {l : List α} {K : α → List α → Prop} (h : tc l K) : ∃ x r, l = x :: r ∧ K x r := by cases l <;> first | exact h.elim | exact ⟨_, _, rfl, h⟩
theorem tn_inv {α : Type} {l : List α} {X : Prop} (h : tn l X) : l = [] ∧ X := by cases l <;> first | exact ⟨rfl, h⟩ | exact h.elim
theorem vO_inv {v : AV} {K : TV → Prop} (h : vO v K) : ∃ t, v = .one t ∧ K t := by cases v <;> first | exact ⟨_, rfl, h⟩ | exact h.elim
theorem vT_inv {v : AV} {K : List TV → Prop} (h : vT v K) : ∃ t, v = .tup t ∧ K t := by cases v <;> first | exact ⟨_, rfl, h⟩ | exact h.elim
theorem vU_inv {v : AV} {X : Prop} (h : vU v X) : v = .un ∧ X := by cases v <;> first | exact ⟨rfl, h⟩ | exact h.elim
theorem tL_inv {t : TV} {K : Lf → Prop} (h : tL t K) : ∃ x, t = .lf x ∧ K x := by cases t <;> first | exact ⟨_, rfl, h⟩ | exact h.elim
theorem tA_inv {t : TV} {K : List Lf → Prop} (h : tA t K) : ∃ x, t = .agg x ∧ K x := by cases t <;> first | exact ⟨_, rfl, h⟩ | exact h.elim
theorem qI_inv {k : IntKind} {x : Lf} {K : Int → Prop} (h : qI k x K) : ∃ n, x = .d (.int k n) ∧ K n := by
  cases x <;> first | exact h.elim | skip
  obtain ⟨n, rfl, hk⟩ := dK_inv h
  exact ⟨n, rfl, hk⟩
theorem qB_inv {x : Lf} {K : Bool → Prop} (h : qB x K) : ∃ n, x = .d (.bool n) ∧ K n := by
  cases x <;> first | exact h.elim | skip
  rename_i y
  cases y <;> first | exact h.elim | exact ⟨_, rfl, h⟩
theorem qS_inv {x : Lf} {K : List UInt8 → Prop} (h : qS x K) : ∃ n, x = .d (.str n) ∧ K n := by
  cases x <;> first | exact h.elim | skip
  rename_i y
  cases y <;> first | exact h.elim | exact ⟨_, rfl, h⟩
theorem qL_inv {sz : Nat} {x : Lf} {K : List (List D) → Prop} (h : qL sz x K) : ∃ es, x = .d (.sl sz es .any) ∧ K es := by
  unfold qL at h
  split at h
  · obtain ⟨hb, h1⟩ := br_t h
    obtain rfl := Nat.eq_of_beq_eq_true hb
    exact ⟨_, rfl, h1⟩
  · exact h.elim
theorem qN_inv {sz : Nat} {x : Lf} {X : Prop} (h : qN sz x X) : x = .d (.sl sz [] .nil) ∧ X := by
  unfold qN at h
  split at h
  · obtain ⟨hb, h1⟩ := br_t h
    obtain rfl := Nat.eq_of_beq_eq_true hb
    exact ⟨rfl, h1⟩
  · exact h.elim
theorem qD_inv {x : Lf} {K : D → Prop} (h : qD x K) : ∃ y, x = .d y ∧ K y := by cases x <;> first | exact ⟨_, rfl, h⟩ | exact h.elim
theorem qC_inv {c : Nat} {x : Lf} {X : Prop} (h : qC c x X) : ∀ y, dtag y = c → c ≠ 5 → x = .d y ∧ X := by
  intro y hy hc
  unfold qC at h
  split at h
  · rename_i z
    split at h
    · exact h.elim
    · obtain ⟨hb, h1⟩ := br_t h
      have := Nat.eq_of_beq_eq_true hb
      refine ⟨?_, h1⟩
      congr 1
      cases z <;> cases y <;> simp_all [dtag] <;> omega
  · exact h.elim
theorem qP_inv {id : Nat} {x : Lf} {K : Nat → Prop} (h : qP id x K) : ∃ o, x = .ptr id o ∧ K o := by
  unfold qP at h
  split at h
  · obtain ⟨hb, h1⟩ := br_t h
    obtain rfl := Nat.eq_of_beq_eq_true hb
    exact ⟨_, rfl, h1⟩
  · exact h.elim
theorem beq2 {a b c d : Nat} (h : (Nat.beq a b && Nat.beq c d) = true) : a = b ∧ c = d := by
  rw [Bool.and_eq_true] at h
  exact ⟨Nat.eq_of_beq_eq_true h.1, Nat.eq_of_beq_eq_true h.2⟩
theorem qPl_inv {id off : Nat} {x : Lf} {X : Prop} (h : qPl id off x X) : x = .ptr id off ∧ X := by
  unfold qPl at h
  split at h
  · obtain ⟨hb, h1⟩ := br_t h
    obtain ⟨rfl, rfl⟩ := beq2 hb
    exact ⟨rfl, h1⟩
  · exact h.elim
theorem qR_inv {id ver off : Nat} {x : Lf} {K : Nat → Prop} (h : qR id ver off x K) : ∃ j, x = .rptr id ver j off ∧ K j := by
  unfold qR at h
  split at h
  · obtain ⟨hb, h1⟩ := br_t h
    rw [Bool.and_eq_true] at hb
    obtain ⟨rfl, rfl⟩ := beq2 hb.1
    obtain rfl := Nat.eq_of_beq_eq_true hb.2
    exact ⟨_, rfl, h1⟩
  · exact h.elim
theorem qO_inv {off : Nat} {x : Lf} {K : List D → Prop} (h : qO off x K) : ∃ l, x = .rop l off ∧ K l := by
  unfold qO at h
  split at h
  · obtain ⟨hb, h1⟩ := br_t h
    obtain rfl := Nat.eq_of_beq_eq_true hb
    exact ⟨_, rfl, h1⟩
  · exact h.elim
theorem qW_inv {id ver : Nat} {x : Lf} {X : Prop} (h : qW id ver x X) : x = .rw id ver ∧ X := by
  unfold qW at h
  split at h
  · obtain ⟨hb, h1⟩ := br_t h
    obtain ⟨rfl, rfl⟩ := beq2 hb
    exact ⟨rfl, h1⟩
  · exact h.elim
theorem qWs_inv {id ver : Nat} {x : Lf} {K : Nat → Nat → Prop} (h : qWs id ver x K) : ∃ o n, x = .rws id ver o n ∧ K o n := by
  unfold qWs at h
  split at h
  · obtain ⟨hb, h1⟩ := br_t h
    obtain ⟨rfl, rfl⟩ := beq2 hb
    exact ⟨_, _, rfl, h1⟩
  · exact h.elim
theorem qM_inv {id : Nat} {x : Lf} {X : Prop} (h : qM id x X) : x = .map id ∧ X := by
  unfold qM at h
  split at h
  · obtain ⟨hb, h1⟩ := br_t h
    obtain rfl := Nat.eq_of_beq_eq_true hb
    exact ⟨rfl, h1⟩
  · exact h.elim
theorem beqN_inv : ∀ {l m : List Nat}, beqN l m = true → l = m
  | [], [], _ => rfl
  | x :: l, y :: m, h => by
    simp only [beqN, Bool.and_eq_true] at h
    rw [Nat.eq_of_beq_eq_true h.1, beqN_inv h.2]
  | [], _ :: _, h => by cases h
  | _ :: _, [], h => by cases h
theorem qF_inv {f : FuncId} {caps : List Nat} {x : Lf} {X : Prop} (h : qF f caps x X) : x = .fn f caps ∧ X := by
  unfold qF at h
  split at h
  · obtain ⟨hb, h1⟩ := br_t h
    rw [Bool.and_eq_true] at hb
    obtain rfl := Nat.eq_of_beq_eq_true hb.1
    obtain rfl := beqN_inv hb.2
    exact ⟨rfl, h1⟩
  · exact h.elim
theorem oC_inv {o : Obj} {K : List Lf → Prop} (h : oC o K) : ∃ l, o = .cells l ∧ K l := by cases o <;> first | exact ⟨_, rfl, h⟩ | exact h.elim
theorem oR_inv {sz ver : Nat} {o : Obj} {K : List (List D) → Prop} (h : oR sz ver o K) : ∃ es, o = .row sz es ver ∧ K es := by
  unfold oR at h
  split at h
  · obtain ⟨hb, h1⟩ := br_t h
    obtain ⟨rfl, rfl⟩ := beq2 hb
    exact ⟨_, rfl, h1⟩
  · exact h.elim
theorem oA_inv {o : Obj} {K : List D → Prop} (h : oA o K) : ∃ l, o = .arr l ∧ K l := by cases o <;> first | exact ⟨_, rfl, h⟩ | exact h.elim
theorem oM_inv {ag : Bool} {kk : Option IntKind} {o : Obj} {K : List (D × List D) → Prop} (h : oM ag kk o K) : ∃ es, o = .map ag kk es ∧ K es := by
  unfold oM at h
  split at h
  · obtain ⟨hb, h1⟩ := br_t h
    rw [Bool.and_eq_true, beq_iff_eq] at hb
    obtain ⟨rfl, h2⟩ := hb
    obtain rfl := kkEq_inv h2
    exact ⟨_, rfl, h1⟩
  · exact h.elim
theorem oS_inv {o : Obj} {K : List UInt8 → Nat → Prop} (h : oS o K) : ∃ s p, o = .siter s p ∧ K s p := by cases o <;> first | exact ⟨_, _, rfl, h⟩ | exact h.elim
theorem oD_inv {o : Obj} {X : Prop} (h : oD o X) : o = .dead ∧ X := by cases o <;> first | exact ⟨rfl, h⟩ | exact h.elim

/-! the same, for terms -/
section
variable {α : Type}
theorem tc_el {G : List α → Prop} {K : α → List α → Prop} (f : ∀ x r, K x r → G (x :: r)) : ∀ (l : List α), tc l K → G l := by intro l h; obtain ⟨x, r, rfl, h1⟩ := tc_inv h; exact f x r h1
theorem tn_el {G : List α → Prop} {X : Prop} (f : X → G []) : ∀ (l : List α), tn l X → G l := by intro l h; obtain ⟨rfl, h1⟩ := tn_inv h; exact f h1
end
theorem vO_el {G : AV → Prop} {K : TV → Prop} (f : ∀ t, K t → G (.one t)) : ∀ (v : AV), vO v K → G v := by intro v h; obtain ⟨t, rfl, h1⟩ := vO_inv h; exact f t h1
theorem vT_el {G : AV → Prop} {K : List TV → Prop} (f : ∀ t, K t → G (.tup t)) : ∀ (v : AV), vT v K → G v := by intro v h; obtain ⟨t, rfl, h1⟩ := vT_inv h; exact f t h1
theorem vU_el {G : AV → Prop} {X : Prop} (f : X → G .un) : ∀ (v : AV), vU v X → G v := by intro v h; obtain ⟨rfl, h1⟩ := vU_inv h; exact f h1
theorem tL_el {G : TV → Prop} {K : Lf → Prop} (f : ∀ x, K x → G (.lf x)) : ∀ (t : TV), tL t K → G t := by intro t h; obtain ⟨x, rfl, h1⟩ := tL_inv h; exact f x h1
theorem tA_el {G : TV → Prop} {K : List Lf → Prop} (f : ∀ x, K x → G (.agg x)) : ∀ (t : TV), tA t K → G t := by intro t h; obtain ⟨x, rfl, h1⟩ := tA_inv h; exact f x h1
theorem qI_el {k : IntKind} {G : Lf → Prop} {K : Int → Prop} (f : ∀ n, K n → G (.d (.int k n))) : ∀ (x : Lf), qI k x K → G x := by intro x h; obtain ⟨n, rfl, h1⟩ := qI_inv h; exact f n h1
theorem qB_el {G : Lf → Prop} {K : Bool → Prop} (f : ∀ n, K n → G (.d (.bool n))) : ∀ (x : Lf), qB x K → G x := by intro x h; obtain ⟨n, rfl, h1⟩ := qB_inv h; exact f n h1
theorem qS_el {G : Lf → Prop} {K : List UInt8 → Prop} (f : ∀ n, K n → G (.d (.str n))) : ∀ (x : Lf), qS x K → G x := by intro x h; obtain ⟨n, rfl, h1⟩ := qS_inv h; exact f n h1
theorem qL_el {sz : Nat} {G : Lf → Prop} {K : List (List D) → Prop} (f : ∀ es, K es → G (.d (.sl sz es .any))) : ∀ (x : Lf), qL sz x K → G x := by intro x h; obtain ⟨n, rfl, h1⟩ := qL_inv h; exact f n h1
theorem qN_el {sz : Nat} {G : Lf → Prop} {X : Prop} (f : X → G (.d (.sl sz [] .nil))) : ∀ (x : Lf), qN sz x X → G x := by intro x h; obtain ⟨rfl, h1⟩ := qN_inv h; exact f h1
theorem qD_el {G : Lf → Prop} {K : D → Prop} (f : ∀ y, K y → G (.d y)) : ∀ (x : Lf), qD x K → G x := by intro x h; obtain ⟨n, rfl, h1⟩ := qD_inv h; exact f n h1
theorem qC_el {c : Nat} {G : Lf → Prop} {X : Prop} (y : D) (hy : dtag y = c) (hc : Nat.blt c 5 = true) (f : X → G (.d y)) : ∀ (x : Lf), qC c x X → G x := by
  intro x h
  obtain ⟨rfl, h1⟩ := qC_inv h y hy (by rw [Nat.blt_eq] at hc; omega); exact f h1
theorem qP_el {id : Nat} {G : Lf → Prop} {K : Nat → Prop} (f : ∀ o, K o → G (.ptr id o)) : ∀ (x : Lf), qP id x K → G x := by intro x h; obtain ⟨n, rfl, h1⟩ := qP_inv h; exact f n h1
theorem qPl_el {id off : Nat} {G : Lf → Prop} {X : Prop} (f : X → G (.ptr id off)) : ∀ (x : Lf), qPl id off x X → G x := by intro x h; obtain ⟨rfl, h1⟩ := qPl_inv h; exact f h1
theorem qR_el {id ver off : Nat} {G : Lf → Prop} {K : Nat → Prop} (f : ∀ j, K j → G (.rptr id ver j off)) : ∀ (x : Lf), qR id ver off x K → G x := by intro x h; obtain ⟨n, rfl, h1⟩ := qR_inv h; exact f n h1
theorem qO_el {off : Nat} {G : Lf → Prop} {K : List D → Prop} (f : ∀ l, K l → G (.rop l off)) : ∀ (x : Lf), qO off x K → G x := by intro x h; obtain ⟨n, rfl, h1⟩ := qO_inv h; exact f n h1
theorem qW_el {id ver : Nat} {G : Lf → Prop} {X : Prop} (f : X → G (.rw id ver)) : ∀ (x : Lf), qW id ver x X → G x := by intro x h; obtain ⟨rfl, h1⟩ := qW_inv h; exact f h1
theorem qWs_el {id ver : Nat} {G : Lf → Prop} {K : Nat → Nat → Prop} (f : ∀ o n, K o n → G (.rws id ver o n)) : ∀ (x : Lf), qWs id ver x K → G x := by intro x h; obtain ⟨o, n, rfl, h1⟩ := qWs_inv h; exact f o n h1
theorem qM_el {id : Nat} {G : Lf → Prop} {X : Prop} (f : X → G (.map id)) : ∀ (x : Lf), qM id x X → G x := by intro x h; obtain ⟨rfl, h1⟩ := qM_inv h; exact f h1
theorem qF_el {g : FuncId} {caps : List Nat} {G : Lf → Prop} {X : Prop} (f : X → G (.fn g caps)) : ∀ (x : Lf), qF g caps x X → G x := by intro x h; obtain ⟨rfl, h1⟩ := qF_inv h; exact f h1
theorem oC_el {G : Obj → Prop} {K : List Lf → Prop} (f : ∀ l, K l → G (.cells l)) : ∀ (o : Obj), oC o K → G o := by intro o h; obtain ⟨n, rfl, h1⟩ := oC_inv h; exact f n h1
theorem oR_el {sz ver : Nat} {G : Obj → Prop} {K : List (List D) → Prop} (f : ∀ es, K es → G (.row sz es ver)) : ∀ (o : Obj), oR sz ver o K → G o := by intro o h; obtain ⟨n, rfl, h1⟩ := oR_inv h; exact f n h1
theorem oA_el {G : Obj → Prop} {K : List D → Prop} (f : ∀ l, K l → G (.arr l)) : ∀ (o : Obj), oA o K → G o := by intro o h; obtain ⟨n, rfl, h1⟩ := oA_inv h; exact f n h1
theorem oM_el {ag : Bool} {kk : Option IntKind} {G : Obj → Prop} {K : List (D × List D) → Prop} (f : ∀ es, K es → G (.map ag kk es)) : ∀ (o : Obj), oM ag kk o K → G o := by intro o h; obtain ⟨n, rfl, h1⟩ := oM_inv h; exact f n h1
theorem oS_el {G : Obj → Prop} {K : List UInt8 → Nat → Prop} (f : ∀ s p, K s p → G (.siter s p)) : ∀ (o : Obj), oS o K → G o := by intro o h; obtain ⟨s, p, rfl, h1⟩ := oS_inv h; exact f s p h1
theorem oD_el {G : Obj → Prop} {X : Prop} (f : X → G .dead) : ∀ (o : Obj), oD o X → G o := by intro o h; obtain ⟨rfl, h1⟩ := oD_inv h; exact f h1

/-! ### Tables -/
inductive Tr (α : Type) | nil | node (k : Nat) (x : α) (l r : Tr α)
def Tr.look {α : Type} : Tr α → Nat → Option α
  | .nil, _ => none
  | .node k x l r, n => match Nat.blt n k with
    | true => l.look n
    | false => match Nat.beq n k with | true => some x | false => r.look n
def Tr.All {α : Type} (Q : Nat → α → Prop) : Tr α → Prop
  | .nil => True
  | .node k x l r => Q k x ∧ l.All Q ∧ r.All Q
theorem Tr.all_look {α : Type} {Q : Nat → α → Prop} : ∀ {t : Tr α}, t.All Q → ∀ n x, t.look n = some x → Q n x
  | .nil, _, n, x, h => by cases h
  | .node k y l r, ⟨h1, h2, h3⟩, n, x, h => by
    simp only [Tr.look] at h
    split at h
    · exact Tr.all_look h2 n x h
    · split at h
      · rename_i hb
        obtain rfl := Nat.eq_of_beq_eq_true hb
        cases h
        exact h1
      · exact Tr.all_look h3 n x h
def lookN {α : Type} : List (Nat × α) → Nat → Option α
  | [], _ => none
  | (n, x) :: l, k => match Nat.beq n k with | true => some x | false => lookN l k
abbrev Ent := List TV → List Obj → (List TV → List Obj → Prop) → Prop
def tab : List (Nat × Ent) → Cal
  | [], _, _, _, _ => False
  | (n, c) :: l, g, a, h, K => match Nat.beq g n with | true => c a h K | false => tab l g a h K
def EntOK (P : Program) (E : Env) (g : FuncId) (c : Ent) : Prop := ∀ args h K, c args h K → ∀ w γ (vs : List Value), HRel w h γ → GRel E w (Ro w h γ) → (∀ o ∈ h, verO o = 0) → Pt (TRel w h γ) args vs →
  CalK P g vs.toArray w fun v w' => ∃ res h' γ', K res h' ∧ VRel w' h' γ' (retV res) v ∧ Step w h γ w' h' γ'
theorem tab_ok {P : Program} {E : Env} : ∀ {l : List (Nat × Ent)}, (∀ p ∈ l, EntOK P E p.1 p.2) → CalOK P E (tab l)
  | [], _ => fun g args h K hk => hk.elim
  | (n, c) :: l, hl => fun g args h K hk => by
    unfold tab at hk
    split at hk
    · rename_i hb
      obtain rfl := Nat.eq_of_beq_eq_true hb
      exact hl (g, c) (by simp) args h K hk
    · exact tab_ok (fun p hp => hl p (List.mem_cons_of_mem _ hp)) g args h K hk
/-- Two shapes of one callee. -/
def two (b : List TV → List Obj → Bool) (c d : Ent) : Ent := fun a h K => match b a h with | true => c a h K | false => d a h K
theorem two_ok {P : Program} {E : Env} {g : FuncId} {b : List TV → List Obj → Bool} {c d : Ent} (hc : EntOK P E g c) (hd : EntOK P E g d) : EntOK P E g (two b c d) := fun args h K hk => by
  unfold two at hk
  split at hk
  · exact hc args h K hk
  · exact hd args h K hk
abbrev LEnt := List AV → List Obj → (Ex → St → Prop) → Prop
def ltab : List (Nat × LEnt) → Lps
  | [], _, _, _, _ => False
  | (n, c) :: l, id, vs, h, K => match Nat.beq id n with | true => c vs h K | false => ltab l id vs h K
def ltwo (b : List AV → List Obj → Bool) (c d : LEnt) : LEnt := fun a h K => match b a h with | true => c a h K | false => d a h K
theorem ltwo_inv {b : List AV → List Obj → Bool} {c d : LEnt} {a : List AV} {h : List Obj} {K : Ex → St → Prop} (hk : ltwo b c d a h K) : c a h K ∨ d a h K := by
  unfold ltwo at hk
  split at hk
  · exact .inl hk
  · exact .inr hk

/-! ### Shapes told apart -/
def codeL : Lf → List Nat
  | .d (.int ..) => [1] | .d (.bool _) => [2] | .d (.str _) => [3] | .d (.sl n [] .nil) => [4, n] | .d (.sl n _ _) => [5, n] | .d x => [6, dtag x]
  | .ptr i _ => [7, i] | .rptr i v _ o => [8, i, v, o] | .rop _ o => [9, o] | .rw i v => [10, i, v] | .rws i v _ _ => [11, i, v] | .map i => [12, i] | .fn f cs => 13 :: f :: cs.length :: cs
def codeT : TV → List Nat | .lf x => 20 :: codeL x | .agg l => 21 :: l.length :: l.flatMap codeL
def codeA : AV → List Nat | .one t => 30 :: codeT t | .tup l => 31 :: l.length :: l.flatMap codeT | .un => [32]
def codeO : Obj → List Nat
  | .cells l => 40 :: l.length :: l.flatMap codeL | .row n _ v => [41, n, v] | .arr _ => [42] | .map .. => [43] | .siter .. => [44] | .dead => [45]
def isT (c : List Nat) (l : List TV) (h : List Obj) : Bool := beqN (l.flatMap codeT ++ h.flatMap codeO) c
def isV (c : List Nat) (l : List AV) (h : List Obj) : Bool := beqN (l.flatMap codeA ++ h.flatMap codeO) c

/-! ### Loops and pieces of a body -/
def loopsOf : Code → List Code
  | .seq a b => loopsOf a ++ loopsOf b
  | .cond _ a b => loopsOf a ++ loopsOf b
  | .block _ c => loopsOf c
  | .loop c => c :: loopsOf c
  | _ => []
def oneCut (E : Env) (c : Code) : List Code := match E.adv (cutId c) with | some _ => [c] | none => []
def cutsOf (E : Env) : Code → List Code
  | .seq a b => cutsOf E a ++ cutsOf E b ++ oneCut E b
  | .cond _ a b => cutsOf E a ++ cutsOf E b ++ oneCut E a ++ oneCut E b
  | .block _ c => cutsOf E c
  | .loop c => cutsOf E c
  | _ => []
def bodyOf (fn : Func) : Code := match fn.body with | some c => c | none => .skip
def loopAt (fn : Func) (j : Nat) : Code := (loopsOf (bodyOf fn)).getD j .skip
def cutAt (E : Env) (fn : Func) (j : Nat) : Code := (cutsOf E (bodyOf fn)).getD j .skip
def LoopC (E : Env) (cal : Cal) (lp : Lps) (m : Nat) (x : Code) : Prop := ∀ vs h K, lp (lid x) vs h K → ∃ k, iterP E m (lid x) (execP E cal lp (drawP E cal) m x) k vs h K
def CutC (E : Env) (cal : Cal) (lp : Lps) (m : Nat) (x : Code) : Prop := ∀ vs h K, lp (cutId x) vs h K → execP E cal lp (drawP E cal) m x ⟨spread E.n (liveOf E (cutId x)) vs, h⟩ (KF E (cutId x) K)
theorem oneCut_ok {E : Env} {cal : Cal} {lp : Lps} {m : Nat} {c : Code} (h : ∀ x ∈ oneCut E c, CutC E cal lp m x) : CutOK E lp c (execP E cal lp (drawP E cal) m c) := by
  intro hn vs hp K hk
  have : oneCut E c = [c] := by
    unfold oneCut
    split
    · rfl
    · rename_i e; exact absurd e hn
  exact h c (by rw [this]; simp) vs hp K hk
theorem loops_ok {E : Env} {cal : Cal} {lp : Lps} {m : Nat} : ∀ {c : Code}, (∀ x ∈ loopsOf c, LoopC E cal lp m x) → (∀ x ∈ cutsOf E c, CutC E cal lp m x) → LoopsOK E cal lp (drawP E cal) m c
  | .seq a b, hl, hc => by
    simp only [loopsOf, cutsOf, List.mem_append] at hl hc
    exact ⟨loops_ok (fun x hx => hl x (.inl hx)) (fun x hx => hc x (.inl (.inl hx))), loops_ok (fun x hx => hl x (.inr hx)) (fun x hx => hc x (.inl (.inr hx))), oneCut_ok fun x hx => hc x (.inr hx)⟩
  | .cond e a b, hl, hc => by
    simp only [loopsOf, cutsOf, List.mem_append] at hl hc
    exact ⟨loops_ok (fun x hx => hl x (.inl hx)) (fun x hx => hc x (.inl (.inl (.inl hx)))), loops_ok (fun x hx => hl x (.inr hx)) (fun x hx => hc x (.inl (.inl (.inr hx)))), oneCut_ok fun x hx => hc x (.inl (.inr hx)), oneCut_ok fun x hx => hc x (.inr hx)⟩
  | .block i c, hl, hc => loops_ok (c := c) hl hc
  | .loop c, hl, hc => ⟨hl c (by simp [loopsOf]), loops_ok (fun x hx => hl x (by simp [loopsOf, hx])) hc⟩
  | .skip, _, _ => trivial
  | .label _, _, _ => trivial
  | .region .., _, _ => trivial
  | .exit _, _, _ => trivial
  | .ret, _, _ => trivial
  | .rangeFunc .., _, _ => trivial
  | .scope _, _, _ => trivial
  | .goto _, _, _ => trivial
  | .refuse _, _, _ => trivial
theorem upto {P : Nat → Prop} : ∀ {n : Nat}, (∀ i, i < n → P i) → ∀ i, i < n → P i := fun h => h
theorem all_at {α : Type} {P : α → Prop} {d : α} {l : List α} {n : Nat} (hl : l.length = n) (h : ∀ i, i < n → P (l.getD i d)) : ∀ x ∈ l, P x := fun x hx => by
  obtain ⟨i, hi⟩ := List.getElem?_of_mem hx
  have hlt := (List.getElem?_eq_some_iff.1 hi).1
  have := h i (by omega)
  rwa [List.getD_eq_getElem?_getD, hi] at this
/-- A printed body is the call's answer. -/
theorem ent_ok {P : Program} {E E0 : Env} {l : List (Nat × Ent)} {lp : Lps} (hT : E.T = E0.T) (hG : E.G = E0.G) (H : EOK P E0) (hm : P.follows .mixedOrders = true) (HC : ∀ p ∈ l, EntOK P E0 p.1 p.2) {f : FuncId} {fn : Func} (hf : P.funcs[f]? = some fn) (hn : ∀ (args : Array Value) (w : World), (callFunc f args).run P w = .ok (.enter f args) w)
    (hE : E.n = fn.ntmps) {args : List TV} {h : List Obj} {K : List TV → List Obj → Prop} (hk : bodyP E (tab l) lp (drawP E (tab l)) fn args h K) (hle : args.length ≤ fn.ntmps)
    (hl : ∀ x ∈ loopsOf (bodyOf fn), LoopC E (tab l) lp h.length x) (hc : ∀ x ∈ cutsOf E (bodyOf fn), CutC E (tab l) lp h.length x)
    {w : World} {γ : Gam} {vs : List Value} (HH : HRel w h γ) (HG : GRel E0 w (Ro w h γ)) (hz : ∀ o ∈ h, verO o = 0) (hp : Pt (TRel w h γ) args vs) :
    CalK P f vs.toArray w fun v w' => ∃ res h' γ', K res h' ∧ VRel w' h' γ' (retV res) v ∧ Step w h γ w' h' γ' := by
  have HE : EOK P E := fun t ti ht => H t ti (hT ▸ ht)
  have gr : ∀ {w N}, GRel E w N → GRel E0 w N := fun g i l hi => g i l (hG ▸ hi)
  have gr' : ∀ {w N}, GRel E0 w N → GRel E w N := fun g i l hi => g i l (hG ▸ hi)
  have HC' : CalOK P E (tab l) := fun g a h K hk w γ vs h1 h2 h3 h4 => tab_ok HC g a h K hk w γ vs h1 (gr h2) h3 h4
  refine body_ok HE HC' (drawP_ok hm HE HC') hf hn hk (fun c hcb => ?_) hE hle HH (gr' HG) hz hp
  have : bodyOf fn = c := by unfold bodyOf; rw [hcb]
  subst this
  exact loops_ok hl hc
end Go.Proofs.YtahlcbmmjfdcaaaGreatDoor.PX
