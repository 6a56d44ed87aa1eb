/- Contracts of functions that the law reaches. -/
import Derived.Test.YtincpomenogppaaGreatDoorT4
set_option linter.unusedSimpArgs false
set_option linter.unusedVariables false
namespace Go.Proofs.YtincpomenogppaaGreatDoor
open Go Go.RowKit Go.Proofs.YtincpomenogppaaGreatDoor Go.Proofs.YtincpomenogppaaGreatDoor.Lift
set_option maxRecDepth 100000

def anyWide (ns : List Int) : Bool := ns.any fun c => decide (255 < c)
def packL (ns : List Int) : List UInt8 := if anyWide ns = true then ns.flatMap be4 else ns.map u8of
def sPack : List PV → Prop × PV
  | [.list 1 xs] => match unR xs with
    | some ns => (ns.length ≤ 1000000000, .agg [.str (packL ns), .bool (anyWide ns)])
    | none => PBad
  | _ => PBad
end Go.Proofs.YtincpomenogppaaGreatDoor

namespace Go.Proofs.YtincpomenogppaaGreatDoor
open Go Go.RowKit Go.Proofs.YtincpomenogppaaGreatDoor Go.Proofs.YtincpomenogppaaGreatDoor.Lift
set_option maxRecDepth 100000

theorem runesAt_len (s : ByteArray) : ∀ n i, (runesAt s n i).length ≤ n
  | 0, _ => Nat.le_refl _
  | n + 1, i => by
    unfold runesAt
    split
    · simp only [List.length_cons]
      exact Nat.succ_le_succ (runesAt_len s n _)
    · exact Nat.zero_le _
theorem runesOf_len (l : List UInt8) : (runesOf l).length ≤ l.length := runesAt_len _ _ _
def strV (ns : List Int) : PV := .agg [.str (packL ns), .bool (anyWide ns)]
def sOf : List PV → Prop × PV
  | [.str s] => (s.length ≤ 70368744177664 ∧ (runesOf s).length ≤ 65536, .tuple [strV (runesOf s), .int .i64 0])
  | _ => PBad
def sText : List PV → Prop × PV
  | [.agg [.str l, .bool w]] => (l.length ≤ 1000000000, .str ((charsS l w).flatMap encL))
  | _ => PBad
def sWide : List PV → Prop × PV
  | [.agg [.str _, .bool w]] => (True, .bool w)
  | _ => PBad
def atS (l : List UInt8) (w : Bool) (i : Int) : PV := if i < 0 ∨ (lenS l w : Int) ≤ i then .tuple [.int .i64 0, .int .i64 11] else .tuple [.int .i64 (charS l w i.toNat), .int .i64 0]
def sAt : List PV → Prop × PV
  | [.agg [.str l, .bool w], .int .i64 i] => (l.length ≤ 1000000000, atS l w i)
  | _ => PBad
end Go.Proofs.YtincpomenogppaaGreatDoor
