/- Contracts of functions that the law reaches. -/
import Derived.Test.Ytekgfneapofgpaai
import Derived.Test.YtekgfneapofgpaaLiftD
set_option linter.unusedSimpArgs false
set_option linter.unusedVariables false
namespace Go.Proofs.Ytekgfneapofgpaa
open Go Go.RowKit Go.Proofs.Ytekgfneapofgpaa Go.Proofs.Ytekgfneapofgpaa.Lift

/-! The shapes of what comes in -/
abbrev shOffer : Sh := .struct (.fcons (.int .i64) (.fcons .bool .fnil))
abbrev shAct : Sh := .struct (.fcons (.int .u8) (.fcons (.int .i64) (.fcons (.slice shOffer) .fnil)))
theorem open_offer {cs : List PV} (h : VSh shOffer cs) : ∃ o : Int × Bool, cs = [.int .i64 o.1, .bool o.2] := by
  obtain ⟨a, b, rfl, ⟨n, rfl, _⟩, c, d, rfl, ⟨s, rfl⟩, h⟩ := h
  have h : d = [] := h
  subst h
  exact ⟨(n, s), rfl⟩
theorem open_offers : ∀ {xs : List (List PV)}, (∀ x ∈ xs, VSh shOffer x) → ∃ os, xs = elO os
  | [], _ => ⟨[], rfl⟩
  | x :: xs, h => by
    obtain ⟨o, rfl⟩ := open_offer (h x (List.mem_cons_self ..))
    obtain ⟨os, rfl⟩ := open_offers (fun y hy => h y (List.mem_cons_of_mem _ hy))
    exact ⟨o :: os, rfl⟩
theorem open_act {cs : List PV} (h : VSh shAct cs) : ∃ (a b : Int) (os : List (Int × Bool)), cs = [.int .u8 a, .int .i64 b, .list 2 (elO os)] := by
  obtain ⟨_, _, rfl, ⟨n, rfl, _⟩, _, _, rfl, ⟨m, rfl, _⟩, _, d, rfl, ⟨xs, rfl, _, hx⟩, h⟩ := h
  have h : d = [] := h
  subst h
  obtain ⟨os, rfl⟩ := open_offers hx
  exact ⟨n, m, os, rfl⟩
theorem open_acts : ∀ {xs : List (List PV)}, (∀ x ∈ xs, VSh shAct x) → ∃ l, xs = elA l
  | [], _ => ⟨[], rfl⟩
  | x :: xs, h => by
    obtain ⟨a, b, os, rfl⟩ := open_act (h x (List.mem_cons_self ..))
    obtain ⟨l, rfl⟩ := open_acts (fun y hy => h y (List.mem_cons_of_mem _ hy))
    exact ⟨(a, b, os) :: l, rfl⟩
theorem open_actl {cs : List PV} (h : VSh (.slice shAct) cs) : ∃ l, cs = [.list 3 (elA l)] := by
  obtain ⟨xs, rfl, _, hx⟩ := h
  obtain ⟨l, rfl⟩ := open_acts hx
  exact ⟨l, rfl⟩
theorem open_i64 {cs : List PV} (h : VSh (.int .i64) cs) : ∃ n : Int, cs = [.int .i64 n] := by
  obtain ⟨n, rfl, _⟩ := h
  exact ⟨n, rfl⟩
theorem open_bo {cs : List PV} (h : VSh .bool cs) : ∃ b : Bool, cs = [.bool b] := h
end Go.Proofs.Ytekgfneapofgpaa
