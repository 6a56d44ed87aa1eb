/- Contracts of functions that the law reaches. -/
import Derived.Test.YtincpomenogppaaGreatDoorWj
import Derived.Test.YtincpomenogppaaGreatDoorLiftD
set_option linter.unusedSimpArgs false
set_option linter.unusedVariables false
namespace Go.Proofs.YtincpomenogppaaGreatDoor
open Go Go.RowKit Go.Proofs.YtincpomenogppaaGreatDoor Go.Proofs.YtincpomenogppaaGreatDoor.Lift
set_option maxRecDepth 100000

structure Ed.wide (e : Ed) : Prop where
  a : (Lit.int .i64 e.a).wf = true
  b : (Lit.int .i64 e.b).wf = true
  del : e.del.length ≤ maxLen
  ins : e.ins.length ≤ maxLen
theorem open_strs : ∀ {xs : List (List PV)}, (∀ x ∈ xs, VSh .str x) → ∃ l, xs = strL l
  | [], _ => ⟨[], rfl⟩
  | x :: xs, h => by
    obtain ⟨l, rfl, _⟩ := h x (List.mem_cons_self ..)
    obtain ⟨r, rfl⟩ := open_strs (fun y hy => h y (List.mem_cons_of_mem _ hy))
    exact ⟨l :: r, rfl⟩
def fewE (e : Ed) : Bool := decide (e.del.length ≤ 20) && (decide (e.ins.length ≤ 20) && (smallS e.del && smallS e.ins))
structure FewE (e : Ed) : Prop where
  d : e.del.length ≤ 20
  i : e.ins.length ≤ 20
  ds : smallS e.del = true
  is : smallS e.ins = true
theorem FewE.of {e : Ed} (h : fewE e = true) : FewE e := by
  unfold fewE at h
  simp only [Bool.and_eq_true, decide_eq_true_eq] at h
  exact ⟨h.1, h.2.1, h.2.2.1, h.2.2.2⟩
end Go.Proofs.YtincpomenogppaaGreatDoor
