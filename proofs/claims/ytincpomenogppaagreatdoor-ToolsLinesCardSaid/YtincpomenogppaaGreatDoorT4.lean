/- Contracts of functions that the law reaches. -/
import Derived.Test.YtincpomenogppaaGreatDoorT2
set_option linter.unusedSimpArgs false
set_option linter.unusedVariables false
namespace Go.Proofs.YtincpomenogppaaGreatDoor
open Go Go.RowKit Go.Proofs.YtincpomenogppaaGreatDoor Go.Proofs.YtincpomenogppaaGreatDoor.Lift
set_option maxRecDepth 100000

def elR (ns : List Int) : List (List PV) := ns.map fun n => [.int .i32 n]
def be4 (n : Int) : List UInt8 := [u8of (n.fdiv (2 ^ 24)), u8of (n.fdiv (2 ^ 16)), u8of (n.fdiv (2 ^ 8)), u8of n]
def sPackWide : List PV → Prop × PV
  | [.list 1 xs] => match unR xs with
    | some ns => (ns.length ≤ 1000000000, .str (ns.flatMap be4))
    | none => PBad
  | _ => PBad
end Go.Proofs.YtincpomenogppaaGreatDoor

namespace Go.Proofs.YtincpomenogppaaGreatDoor
open Go Go.RowKit Go.Proofs.YtincpomenogppaaGreatDoor Go.Proofs.YtincpomenogppaaGreatDoor.Lift
set_option maxRecDepth 100000

def lenS (l : List UInt8) (w : Bool) : Nat := if w = true then l.length / 4 else l.length
def sLen : List PV → Prop × PV
  | [.agg [.str l, .bool w]] => (l.length ≤ 1000000000, .int .i64 (lenS l w))
  | _ => PBad
def be32 (a b c d : UInt8) : Int :=
  bitsOp .or .i32 (bitsOp .or .i32 (bitsOp .or .i32 (IntKind.i32.wrap (a.toNat * 2 ^ min 24 IntKind.i32.bits)) (IntKind.i32.wrap (b.toNat * 2 ^ min 16 IntKind.i32.bits))) (IntKind.i32.wrap (c.toNat * 2 ^ min 8 IntKind.i32.bits))) d.toNat
def charS (l : List UInt8) (w : Bool) (i : Nat) : Int :=
  if w = true then be32 (l.getD (4 * i) 0) (l.getD (4 * i + 1) 0) (l.getD (4 * i + 2) 0) (l.getD (4 * i + 3) 0) else (l.getD i 0).toNat
def sChar : List PV → Prop × PV
  | [.agg [.str l, .bool w], .int .i64 i] => (l.length ≤ 1000000000 ∧ 0 ≤ i ∧ i.toNat < lenS l w, .int .i32 (charS l w i.toNat))
  | _ => PBad
theorem byte_lt (b : UInt8) : ((b.toNat : Nat) : Int) < 256 := by have := b.toNat_lt; omega
theorem drop_getD (l : List UInt8) (n i : Nat) : (l.drop n).getD i 0 = l.getD (n + i) 0 := by simp [List.getD_eq_getElem?_getD]
def charsS (l : List UInt8) (w : Bool) : List Int := (List.range (lenS l w)).map (charS l w)
def sRunes : List PV → Prop × PV
  | [.agg [.str l, .bool w]] => (l.length ≤ 1000000000, .list 1 (elR (charsS l w)))
  | _ => PBad
end Go.Proofs.YtincpomenogppaaGreatDoor
