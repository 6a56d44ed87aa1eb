/- Contracts of functions that the law reaches. -/
import Derived.Test.YtincpomenogppaaGreatDoorWa
set_option linter.unusedSimpArgs false
set_option linter.unusedVariables false
namespace Go.Proofs.YtincpomenogppaaGreatDoor
open Go Go.RowKit Go.Proofs.YtincpomenogppaaGreatDoor Go.Proofs.YtincpomenogppaaGreatDoor.Lift
set_option maxRecDepth 100000

def unE : List (List PV) → Option (List Ed)
  | [] => some []
  | [.int .i64 a, .int .i64 b, .list 1 d, .list 1 n] :: l => match unS d with
    | some d => match unS n with
      | some n => match unE l with
        | some r => some (⟨a, b, d, n⟩ :: r)
        | none => none
      | none => none
    | none => none
  | _ => none
theorem unE_el : ∀ l : List Ed, unE (edL l) = some l
  | [] => rfl
  | x :: l => by
    show (match unS (strL x.del) with | some d => (match unS (strL x.ins) with | some n => (match unE (edL l) with | some r => some ((⟨x.a, x.b, d, n⟩ : Ed) :: r) | none => none) | none => none) | none => none) = _
    rw [unS_el, unS_el, unE_el l]
theorem unE_spec : ∀ {xs : List (List PV)} {l : List Ed}, unE xs = some l → xs = edL l
  | [], l, h => by
    have : [] = l := Option.some.inj h
    subst this; rfl
  | x :: xs, l, h => by
    unfold unE at h
    split at h
    · rename_i e; cases e
    · rename_i a b d n l' e
      injection e with e1 e2
      subst e1 e2
      split at h
      · rename_i d' hd
        split at h
        · rename_i n' hn
          split at h
          · rename_i r hr
            have := Option.some.inj h
            subst this
            rw [unE_spec hr, unS_spec hd, unS_spec hn]
            rfl
          · cases h
        · cases h
      · cases h
    · cases h
end Go.Proofs.YtincpomenogppaaGreatDoor
