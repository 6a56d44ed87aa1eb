/- Joining ways. -/
import Derived.Test.YthlibdhjcjangaaLiftU
set_option linter.unusedSimpArgs false
set_option linter.unusedVariables false
namespace Go.Proofs.Ythlibdhjcjangaa.Lift
open Go
variable {E : Env}

theorem hasAll_heap {a : AS} {H : Heap} : ∀ (l : List (Nat × PV)), hasAll a l → hasAll { a with h := H } l
  | [], _ => trivial
  | (t, v) :: l, h => by
    have h1 : a.get t = v ∧ hasAll a l := h
    exact (⟨h1.1, hasAll_heap l h1.2⟩ : _ ∧ _)
theorem SW.enter {c : Code} {Q : Exit → AS → Prop} {a : AS} {n : Nat} {l : List (Nat × PV)} {H : Heap} (hn : a.n = n) (ht : HTo E a.h H) (hs : hasAll a l) (k : SW E c Q ⟨n, l, H⟩) : SW E c Q a :=
  SW.turnTo ht (SW.norm (n := n) (l := l) (h := H) ⟨hn, rfl, hasAll_heap l hs⟩ k)
/-- What is known where ways meet. -/
def Meet (E : Env) (n : Nat) (l : List (Nat × PV)) (H : Heap) (a : AS) : Prop := a.n = n ∧ HTo E a.h H ∧ hasAll a l
theorem SW.meet1 {x z : Code} {Q : Exit → AS → Prop} {a : AS} (n : Nat) (l : List (Nat × PV)) (H : Heap) (h : SW E x (thenQ (Meet E n l H) Q) a) (k : SW E z Q ⟨n, l, H⟩) : SW E (.seq x z) Q a :=
  SW.cut _ h fun _ m => SW.enter m.1 m.2.1 m.2.2 k
theorem SW.meet2 {x y z : Code} {Q : Exit → AS → Prop} {a : AS} (n : Nat) (l : List (Nat × PV)) (H : Heap) (h : SW E x (thenQ (SW E y (thenQ (Meet E n l H) Q)) Q) a) (k : SW E z Q ⟨n, l, H⟩) : SW E (.seq x (.seq y z)) Q a :=
  SW.seq (h.mono fun e a q => by cases e <;> first | exact SW.meet1 n l H q k | exact q)
end Go.Proofs.Ythlibdhjcjangaa.Lift
