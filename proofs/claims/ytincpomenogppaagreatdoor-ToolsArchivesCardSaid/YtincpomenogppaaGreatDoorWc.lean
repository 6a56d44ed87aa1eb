/- Contracts of functions that the law reaches. -/
import Derived.Test.YtincpomenogppaaGreatDoorWb
import Derived.Test.YtincpomenogppaaGreatDoorShelf
import Derived.Lib.ItoaLen
set_option linter.unusedSimpArgs false
set_option linter.unusedVariables false
namespace Go.Proofs.YtincpomenogppaaGreatDoor
open Go Go.RowKit Go.Proofs.YtincpomenogppaaGreatDoor Go.Proofs.YtincpomenogppaaGreatDoor.Lift
set_option maxRecDepth 100000

def sItoa : List PV → Prop × PV
  | [.int .i64 n] => (-9223372036854775808 ≤ n ∧ n ≤ 9223372036854775807, .str (Lib.itoa n))
  | _ => PBad
set_option maxRecDepth 100000 in
theorem Itoa_ok (n : Int) (h : Heap) (h0 : -9223372036854775808 ≤ n) (h1 : n ≤ 9223372036854775807) : SCalls env 54 [.int .i64 n] h (Ret (.str (Lib.itoa n)) h) :=
  SCalls.ofBelow Tryz.func54 rfl rfl fun w I G vs g r => by
    obtain ⟨u, us, rfl, hu, hn⟩ := r
    have hn : us = [] := hn
    subst hn
    have hu : u = .int .i64 n := hu
    subst hu
    obtain ⟨t, fr, hw⟩ := gpow (g.inv : gwinv w I)
    have htab : Lib.TabIs Tryz.prog w "internal/strconv.uint64pow10" .u64 Lib.pow10Tab := by
      unfold Lib.TabIs World.var?
      rw [show Tryz.prog.globalNamed "internal/strconv.uint64pow10" = some 3 by kernel_rfl]
      rw [Option.bind_some, hw]
      rfl
    refine ⟨.string ⟨(Lib.itoa n).toArray⟩, fun _ => rfl, (Tryz.strconv_Itoa n h0 h1 w htab).mono ?_⟩
    rintro e w' ⟨he, k, os, rfl⟩
    exact ⟨he, rfl, rfl, rfl, by rw [Go.Sort.size_grow]; exact Nat.le_add_right _ _, fun j hj => Go.Sort.heap_grow_old _ _ hj⟩
noncomputable def eItoa : SpecE env := ⟨54, sItoa, fun args h hc => by
  unfold sItoa at hc ⊢
  split at hc
  · rename_i n; exact .inl (Itoa_ok n h hc.1 hc.2)
  · exact hc.elim⟩
end Go.Proofs.YtincpomenogppaaGreatDoor
