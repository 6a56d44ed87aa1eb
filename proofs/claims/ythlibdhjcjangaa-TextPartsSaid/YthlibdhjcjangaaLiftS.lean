/- From a contract to what a law's row asks. -/
import Derived.Test.YthlibdhjcjangaaLiftR
set_option linter.unusedSimpArgs false
set_option linter.unusedVariables false
namespace Go.Proofs.Ythlibdhjcjangaa.Lift
open Go Go.RowKit

/-- Nothing is owned. -/
def noHeap : Heap := fun _ => none
theorem SCalls.below {E : Env} {f : FuncId} {args : List PV} {v : Value} {p : PV} (hc : SCalls E f args noHeap (Ret p noHeap)) (hp : ∀ w I u, R w I p u → u = v) (hgl : E.gl = []) (w : World) (I : Nat → Prop) (hI : ∀ k, I k → k < w.heap.size) (vs : List Value) (hr : R0s w I args vs) :
    Calls E.P f vs.toArray w (fun e w' => e = .returned v ∧ Below w.heap.size w w') := by
  have g : Good E w I (fun _ => none) noHeap := Good.mk (fun r o h => nomatch h) (fun k r h => nomatch h) hI (fun g cs h => by rw [hgl] at h; exact nomatch h)
  refine (hc.2 w I (fun _ => none) vs g hr).mono ?_
  rintro e w' ⟨I', G', h', g', s, q⟩
  cases e with
  | returned u =>
    obtain ⟨p', hp', q1, q2⟩ := q
    injection q1 with q1
    subst q1
    exact ⟨by rw [hp _ _ _ hp'], ⟨s.os, s.tape, s.output, s.size, fun k hk => (s.keep k hk rfl rfl).1⟩⟩
  | panicked c => obtain ⟨q1, _⟩ := q; cases q1
  | outgrown => exact q.elim
theorem R0_str (w : World) (I : Nat → Prop) (a : ByteArray) : R0 w I (.str a.data.toList) (.string a) := by
  show _ = _
  rfl
end Go.Proofs.Ythlibdhjcjangaa.Lift
