/- Contracts of functions that the law reaches. -/
import Derived.Test.YtincpomenogppaaDoorT3
set_option linter.unusedSimpArgs false
set_option linter.unusedVariables false
namespace Go.Proofs.YtincpomenogppaaDoor
open Go Go.RowKit Go.Proofs.YtincpomenogppaaDoor Go.Proofs.YtincpomenogppaaDoor.Lift
set_option maxRecDepth 100000

/-- Elements that are characters. -/
def elR (ns : List Int) : List (List PV) := ns.map fun n => [.int .i32 n]
theorem elR_len (ns : List Int) : (elR ns).length = ns.length := by simp [elR]
theorem elR_getD {ns : List Int} {i : Nat} (h : i < ns.length) : (elR ns).getD i [] = [.int .i32 (ns.getD i 0)] := by
  simp [elR, List.getD_eq_getElem?_getD, h]
/-- A character as four bytes. -/
def be4 (n : Int) : List UInt8 := [u8of (n.fdiv (2 ^ 24)), u8of (n.fdiv (2 ^ 16)), u8of (n.fdiv (2 ^ 8)), u8of n]
def sPackWide : List PV → Prop × PV
  | [.list 1 xs] => match unR xs with
    | some ns => (ns.length ≤ 1000000000, .str (ns.flatMap be4))
    | none => PBad
  | _ => PBad
end Go.Proofs.YtincpomenogppaaDoor
