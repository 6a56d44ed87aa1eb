/- Operations that leave the world as it is. -/
import Derived.Test.YthlibdhjcjangaaLiftD
import Derived.Laws.Strings
import Derived.Laws.Cover1
import Derived.Laws.Slices
import Derived.Laws.StructEq
import Derived.Lib.SmallJoins
set_option linter.unusedSimpArgs false
set_option linter.unusedVariables false
namespace Go.Proofs.Ythlibdhjcjangaa.Lift
open Go Go.RowKit

section
variable {E : Env} {w w1 w' : World} {I I1 I' : Nat → Prop} {G G1 G' : Nat → Option Nat} {h : Heap}

/-! ### Binary operators -/
def bitsOp (op : BinOp) (k : IntKind) (x y : Int) : Int :=
  let a := BitVec.ofInt k.bits x
  let b := BitVec.ofInt k.bits y
  match op with
  | .and => k.wrap (a &&& b).toNat
  | .or => k.wrap (a ||| b).toNat
  | .xor => k.wrap (a ^^^ b).toNat
  | _ => k.wrap (a &&& ~~~b).toNat
/-- The order of strings. -/
def lessB : List UInt8 → List UInt8 → Bool := Op.bytesLess
def pbin (op : BinOp) : PV → PV → Option PV
  | .int k a, .int k' b => match op with
    | .shl => if 0 ≤ b then some (.int k (k.wrap (a * 2 ^ (min b.toNat k.bits)))) else none
    | .shr => if 0 ≤ b then some (.int k (a.fdiv (2 ^ (min b.toNat k.bits)))) else none
    | op => if k = k' then match op with
      | .add => some (.int k (k.wrap (a + b)))
      | .sub => some (.int k (k.wrap (a - b)))
      | .mul => some (.int k (k.wrap (a * b)))
      | .quo => if b = 0 then none else some (.int k (k.wrap (a.tdiv b)))
      | .rem => if b = 0 then none else some (.int k (a.tmod b))
      | .and => some (.int k (bitsOp .and k a b))
      | .or => some (.int k (bitsOp .or k a b))
      | .xor => some (.int k (bitsOp .xor k a b))
      | .andNot => some (.int k (bitsOp .andNot k a b))
      | .eql => some (.bool (a == b))
      | .neq => some (.bool (a != b))
      | .lss => some (.bool (decide (a < b)))
      | .leq => some (.bool (decide (a ≤ b)))
      | .gtr => some (.bool (decide (b < a)))
      | .geq => some (.bool (decide (b ≤ a)))
      | _ => none else none
  | .str a, .str b => match op with
    | .add => if a.length + b.length ≤ 9223372036854775807 then some (.str (a ++ b)) else none
    | .eql => some (.bool (a == b))
    | .neq => some (.bool (!(a == b)))
    | .lss => some (.bool (lessB a b))
    | .leq => some (.bool (lessB a b || a == b))
    | .gtr => some (.bool (!(lessB a b || a == b)))
    | .geq => some (.bool (!lessB a b))
    | _ => none
  | _, _ => none

theorem size_mk (l : List UInt8) : (⟨l.toArray⟩ : ByteArray).size = l.length := by simp [ByteArray.size]
theorem mk_append (a b : List UInt8) : (⟨a.toArray⟩ : ByteArray) ++ ⟨b.toArray⟩ = ⟨(a ++ b).toArray⟩ := by
  have := Go.Joins.data_append ⟨a.toArray⟩ ⟨b.toArray⟩
  have h2 := Go.Joins.bytes_eta ((⟨a.toArray⟩ : ByteArray) ++ ⟨b.toArray⟩)
  rw [this] at h2
  simpa using h2.symm

theorem run_eqGuard {op : BinOp} {t : TypeId} {x y : Operand} {a b : Value} (h1 : ∀ cs, a ≠ .agg cs) (h2 : a ≠ .nilIface) : (eqGuard op t x y a b).run E.P w = .ok () w := by
  cases op <;> first | rfl | (cases a <;> first | rfl | exact absurd rfl h2 | exact absurd rfl (h1 _))

theorem pbin_run {op : BinOp} {t : TypeId} {x y v : PV} {u1 u2 : Value} (hv : pbin op x y = some v) (h1 : R w I x u1) (h2 : R w I y u2) (o1 o2 : Operand) :
    ∃ u, (do eqGuard op t o1 o2 u1 u2; binOp op t u1 u2 : Sem Value).run E.P w = .ok u w ∧ R w I v u := by
  unfold pbin at hv
  split at hv
  · rename_i k a k' b
    obtain rfl : u1 = .int k a := h1
    obtain rfl : u2 = .int k' b := h2
    simp only [Sem.run_bind, run_eqGuard (a := .int k a) (h1 := fun cs => by simp) (h2 := by simp), Result.andThen_ok]
    cases op <;> dsimp only at hv
    case shl =>
      split at hv
      · rename_i hb; injection hv with hv; subst hv
        exact ⟨_, by simp [binOp, Op.shift, Int.not_lt.2 hb], rfl⟩
      · cases hv
    case shr =>
      split at hv
      · rename_i hb; injection hv with hv; subst hv
        exact ⟨_, by simp [binOp, Op.shift, Int.not_lt.2 hb], rfl⟩
      · cases hv
    all_goals
      split at hv
      · rename_i hk
        subst hk
        first
        | (cases hv; done)
        | (injection hv with hv; subst hv; exact ⟨_, by simp [binOp, Op.intArith, Op.intBits, Op.intCmp, bitsOp], rfl⟩)
        | (split at hv
           · cases hv
           · rename_i hb; injection hv with hv; subst hv
             exact ⟨_, by simp [binOp, Op.intDiv, hb], rfl⟩)
      · cases hv
  · rename_i a b
    obtain rfl : u1 = .string ⟨a.toArray⟩ := h1
    obtain rfl : u2 = .string ⟨b.toArray⟩ := h2
    simp only [Sem.run_bind, run_eqGuard (a := .string ⟨a.toArray⟩) (h1 := fun cs => by simp) (h2 := by simp), Result.andThen_ok]
    cases op <;> dsimp only at hv
    case add =>
      split at hv
      · rename_i hl; injection hv with hv; subst hv
        refine ⟨.string ⟨(a ++ b).toArray⟩, ?_, rfl⟩
        have : ¬ (((a.length + b.length : Nat) : Int) > IntKind.i64.max) := by
          have : IntKind.i64.max = 9223372036854775807 := by decide
          rw [this]; omega
        simp only [binOp, Op.stringOp, size_mk]
        rw [if_neg this, mk_append]
        rfl
      · cases hv
    all_goals first
      | (cases hv; done)
      | (injection hv with hv; subst hv; exact ⟨_, by simp [binOp, Op.stringOp, lessB], rfl⟩)
  · cases hv
end
end Go.Proofs.Ythlibdhjcjangaa.Lift
