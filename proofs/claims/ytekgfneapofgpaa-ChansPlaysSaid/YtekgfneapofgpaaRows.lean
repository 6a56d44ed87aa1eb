/-
  No cell of these rows narrows 'for every input' (looked for: loops, veiled, ifaces, maps, wideKeys, modest, calm, conditions, laid).
  DERIVED. THE GIVEN ROWS OF THIS SEAT. 5 by the template 'for every input the law returns true; each argument reads behind the call as it read before'; 0 by the template 'total and deterministic' (their statements: YtekgfneapofgpaaTotals.lean).
  GIVEN WITH THE SEED: the statements are not yours to turn. If you find one false, say at which input.
  Laid BY PROGRAM, IN A SANDBOX (cutbox-rows.mjs): the forced cells as the released guide's own fill.sh prints them over the translation f2341da50f5135e4… (all of the seat's roots in one cut). By AI agents, Wed Nov 11 2026. No macro, syntax, notation, axiom, sorry.
-/
import Derived.Test.YtekgfneapofgpaaChecked
import GoSem.Claim
import GoSem.ClaimJoined
import GoSem.ClaimMapViews
import Derived.JoinedTies
import Derived.KernelRfl
namespace Go.Proofs.Ytekgfneapofgpaa
/- THE CELL 'sum', in the pinned program and in every row, IS THE sha256 OF THE DUMP (.gsa) THAT YtekgfneapofgpaaProg.lean LOADS. Nothing in Lean hashes anything: it is a label: what it is worth is what the hold of that sum in a sandbox is worth. -/
noncomputable def Try.pinned : Pinned := { name := "ytekgfneapofgpaa", sum := "f2341da50f5135e42e579c7a7b443bd0ff6a434a35511e1d4a4b1d3a674730c6", checked := Try.checked }
namespace Rows
def none {H : Type} : Left H := { results := [], args := [] }

/-- 'acheronlaw19.ChansNever': WHATEVER THE INPUT: true; the input reads as it did. -/
def chansNeverSpec : ChangeSpec := { name := "chansNever", fn := fun _ => fun
  | [d] => { results := [.lit (.bool true)], args := [d] }
  | _ => none }
def chansNeverRow : OpenClaim := { program := "ytekgfneapofgpaa", sum := "f2341da50f5135e42e579c7a7b443bd0ff6a434a35511e1d4a4b1d3a674730c6", func := "acheron/acheronlaw19.ChansNever", spec := "chansNever", unfollowed := true, recurses := true, plainKeys := false, apart := false }
def ChansNeverSaid : Prop := chansNeverRow.holds Try.pinned (OpenSpec.ofChange chansNeverSpec)

/-- ITS FALSE NEIGHBOUR: 'it returns false'. Refute it at one input. -/
def chansNeverWrong : ChangeSpec := { name := "chansNever", fn := fun _ => fun
  | [d] => { results := [.lit (.bool false)], args := [d] }
  | _ => none }
def ChansNeverWrongFalsely : Prop := chansNeverRow.holds Try.pinned (OpenSpec.ofChange chansNeverWrong)

/-- 'acheronlaw19.ChansPlays': WHATEVER THE INPUT: true; the input reads as it did. -/
def chansPlaysSpec : ChangeSpec := { name := "chansPlays", fn := fun _ => fun
  | [d] => { results := [.lit (.bool true)], args := [d] }
  | _ => none }
def chansPlaysRow : OpenClaim := { program := "ytekgfneapofgpaa", sum := "f2341da50f5135e42e579c7a7b443bd0ff6a434a35511e1d4a4b1d3a674730c6", func := "acheron/acheronlaw19.ChansPlays", spec := "chansPlays", unfollowed := true, recurses := true, plainKeys := false, apart := false }
def ChansPlaysSaid : Prop := chansPlaysRow.holds Try.pinned (OpenSpec.ofChange chansPlaysSpec)

/-- ITS FALSE NEIGHBOUR: 'it returns false'. Refute it at one input. -/
def chansPlaysWrong : ChangeSpec := { name := "chansPlays", fn := fun _ => fun
  | [d] => { results := [.lit (.bool false)], args := [d] }
  | _ => none }
def ChansPlaysWrongFalsely : Prop := chansPlaysRow.holds Try.pinned (OpenSpec.ofChange chansPlaysWrong)

/-- 'acheronlaw19.ChansOrders': WHATEVER THE INPUT: true; the input reads as it did. -/
def chansOrdersSpec : ChangeSpec := { name := "chansOrders", fn := fun _ => fun
  | [d1, d2, d3] => { results := [.lit (.bool true)], args := [d1, d2, d3] }
  | _ => none }
def chansOrdersRow : OpenClaim := { program := "ytekgfneapofgpaa", sum := "f2341da50f5135e42e579c7a7b443bd0ff6a434a35511e1d4a4b1d3a674730c6", func := "acheron/acheronlaw19.ChansOrders", spec := "chansOrders", unfollowed := true, recurses := true, plainKeys := false, apart := false }
def ChansOrdersSaid : Prop := chansOrdersRow.holds Try.pinned (OpenSpec.ofChange chansOrdersSpec)

/-- ITS FALSE NEIGHBOUR: 'it returns false'. Refute it at one input. -/
def chansOrdersWrong : ChangeSpec := { name := "chansOrders", fn := fun _ => fun
  | [d1, d2, d3] => { results := [.lit (.bool false)], args := [d1, d2, d3] }
  | _ => none }
def ChansOrdersWrongFalsely : Prop := chansOrdersRow.holds Try.pinned (OpenSpec.ofChange chansOrdersWrong)

/-- 'acheronlaw19.ChansLeaves': WHATEVER THE INPUT: true; the input reads as it did. -/
def chansLeavesSpec : ChangeSpec := { name := "chansLeaves", fn := fun _ => fun
  | [d1, d2] => { results := [.lit (.bool true)], args := [d1, d2] }
  | _ => none }
def chansLeavesRow : OpenClaim := { program := "ytekgfneapofgpaa", sum := "f2341da50f5135e42e579c7a7b443bd0ff6a434a35511e1d4a4b1d3a674730c6", func := "acheron/acheronlaw19.ChansLeaves", spec := "chansLeaves", unfollowed := true, recurses := true, plainKeys := false, apart := false }
def ChansLeavesSaid : Prop := chansLeavesRow.holds Try.pinned (OpenSpec.ofChange chansLeavesSpec)

/-- ITS FALSE NEIGHBOUR: 'it returns false'. Refute it at one input. -/
def chansLeavesWrong : ChangeSpec := { name := "chansLeaves", fn := fun _ => fun
  | [d1, d2] => { results := [.lit (.bool false)], args := [d1, d2] }
  | _ => none }
def ChansLeavesWrongFalsely : Prop := chansLeavesRow.holds Try.pinned (OpenSpec.ofChange chansLeavesWrong)

/-- 'acheronlaw19.ChansNil': WHATEVER THE INPUT: true; the input reads as it did. -/
def chansNilSpec : ChangeSpec := { name := "chansNil", fn := fun _ => fun
  | [d] => { results := [.lit (.bool true)], args := [d] }
  | _ => none }
def chansNilRow : OpenClaim := { program := "ytekgfneapofgpaa", sum := "f2341da50f5135e42e579c7a7b443bd0ff6a434a35511e1d4a4b1d3a674730c6", func := "acheron/acheronlaw19.ChansNil", spec := "chansNil", unfollowed := true, recurses := true, plainKeys := false, apart := false }
def ChansNilSaid : Prop := chansNilRow.holds Try.pinned (OpenSpec.ofChange chansNilSpec)

/-- ITS FALSE NEIGHBOUR: 'it returns false'. Refute it at one input. -/
def chansNilWrong : ChangeSpec := { name := "chansNil", fn := fun _ => fun
  | [d] => { results := [.lit (.bool false)], args := [d] }
  | _ => none }
def ChansNilWrongFalsely : Prop := chansNilRow.holds Try.pinned (OpenSpec.ofChange chansNilWrong)

/- THE SECOND FORM. 'bulk': how many values and letters a reading holds, each counted each time it is reached (what is shared counts as often as it is met; a slice's spare places count too). A statement '..UptoSaid' is the law's where the arguments, and the package variables that the reading takes, are together of bulk at most 1048576: NARROWER than '..Said'. Prove '..Said' where nothing that the law and all that it calls make is longer than what came in: it says more and counts as full. Else prove '..UptoSaid'. A law counts once. -/
mutual
def uptoBulk {H : Type} : DataW H → Nat
  | .lit (.string bytes) => bytes.length + 1
  | .lit _ => 1
  | .nil => 1
  | .ptr d => uptoBulk d + 1
  | .slice elems spare => uptoBulkAll elems + uptoBulkAll spare + 1
  | .agg parts => uptoBulkAll parts + 1
  | .iface _ d => uptoBulk d + 1
  | .map entries => uptoBulkEntries entries + 1
  | .held _ => 1
def uptoBulkAll {H : Type} : List (DataW H) → Nat
  | [] => 0
  | d :: r => uptoBulk d + uptoBulkAll r
def uptoBulkEntries {H : Type} : List (Lit × DataW H) → Nat
  | [] => 0
  | x :: r => uptoBulkEntry x + uptoBulkEntries r
def uptoBulkEntry {H : Type} : Lit × DataW H → Nat
  | (.string bytes, d) => bytes.length + uptoBulk d + 1
  | (_, d) => uptoBulk d + 1
 end
def uptoSmall : (H : Type) → List (DataW H) → Bool := fun _ ds => decide (uptoBulkAll ds ≤ 1048576)
def OpenSpec.upto (s : _root_.Go.ChangeSpec) : _root_.Go.OpenSpec := { _root_.Go.OpenSpec.ofChange s with cond := some uptoSmall }

/-- 'acheronlaw19.ChansNever', WHERE WHAT IT READS IS OF BULK AT MOST 1048576: true; the input reads as it did. -/
def chansNeverUptoRow : OpenClaim := { program := "ytekgfneapofgpaa", sum := "f2341da50f5135e42e579c7a7b443bd0ff6a434a35511e1d4a4b1d3a674730c6", func := "acheron/acheronlaw19.ChansNever", spec := "chansNever", unfollowed := true, recurses := true, plainKeys := false, apart := false, narrowed := true }
def ChansNeverUptoSaid : Prop := chansNeverUptoRow.holds Try.pinned (OpenSpec.upto chansNeverSpec)

/-- 'acheronlaw19.ChansPlays', WHERE WHAT IT READS IS OF BULK AT MOST 1048576: true; the input reads as it did. -/
def chansPlaysUptoRow : OpenClaim := { program := "ytekgfneapofgpaa", sum := "f2341da50f5135e42e579c7a7b443bd0ff6a434a35511e1d4a4b1d3a674730c6", func := "acheron/acheronlaw19.ChansPlays", spec := "chansPlays", unfollowed := true, recurses := true, plainKeys := false, apart := false, narrowed := true }
def ChansPlaysUptoSaid : Prop := chansPlaysUptoRow.holds Try.pinned (OpenSpec.upto chansPlaysSpec)

/-- 'acheronlaw19.ChansOrders', WHERE WHAT IT READS IS OF BULK AT MOST 1048576: true; the input reads as it did. -/
def chansOrdersUptoRow : OpenClaim := { program := "ytekgfneapofgpaa", sum := "f2341da50f5135e42e579c7a7b443bd0ff6a434a35511e1d4a4b1d3a674730c6", func := "acheron/acheronlaw19.ChansOrders", spec := "chansOrders", unfollowed := true, recurses := true, plainKeys := false, apart := false, narrowed := true }
def ChansOrdersUptoSaid : Prop := chansOrdersUptoRow.holds Try.pinned (OpenSpec.upto chansOrdersSpec)

/-- 'acheronlaw19.ChansLeaves', WHERE WHAT IT READS IS OF BULK AT MOST 1048576: true; the input reads as it did. -/
def chansLeavesUptoRow : OpenClaim := { program := "ytekgfneapofgpaa", sum := "f2341da50f5135e42e579c7a7b443bd0ff6a434a35511e1d4a4b1d3a674730c6", func := "acheron/acheronlaw19.ChansLeaves", spec := "chansLeaves", unfollowed := true, recurses := true, plainKeys := false, apart := false, narrowed := true }
def ChansLeavesUptoSaid : Prop := chansLeavesUptoRow.holds Try.pinned (OpenSpec.upto chansLeavesSpec)

/-- 'acheronlaw19.ChansNil', WHERE WHAT IT READS IS OF BULK AT MOST 1048576: true; the input reads as it did. -/
def chansNilUptoRow : OpenClaim := { program := "ytekgfneapofgpaa", sum := "f2341da50f5135e42e579c7a7b443bd0ff6a434a35511e1d4a4b1d3a674730c6", func := "acheron/acheronlaw19.ChansNil", spec := "chansNil", unfollowed := true, recurses := true, plainKeys := false, apart := false, narrowed := true }
def ChansNilUptoSaid : Prop := chansNilUptoRow.holds Try.pinned (OpenSpec.upto chansNilSpec)

end Rows
end Go.Proofs.Ytekgfneapofgpaa
