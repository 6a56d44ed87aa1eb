/- Contracts of functions that the law reaches. -/
import Derived.Test.Ytekgfneapofgpaau
set_option linter.unusedSimpArgs false
set_option linter.unusedVariables false
namespace Go.Proofs.Ytekgfneapofgpaa
open Go Go.RowKit Go.Proofs.Ytekgfneapofgpaa Go.Proofs.Ytekgfneapofgpaa.Lift

/-! What joins the board and the reference -/
theorem keepP_none {ps : List Int} {p : Int} (h : ps.contains p = false) : keepP p ps = ps := by
  unfold keepP
  rw [List.filter_eq_self]
  intro x hx
  cases e : (x == p)
  · rfl
  · have : x = p := by simpa using e
    subst this
    have : ps.contains x = true := by simpa using hx
    rw [h] at this
    cases this
theorem pids_del (p : Int) : ∀ {ps : List Pr}, (ps.map Pr.pid).Nodup → (delP p ps).map Pr.pid = keepP p (ps.map Pr.pid)
  | [], _ => rfl
  | x :: ps, h => by
    rw [List.map_cons, List.nodup_cons] at h
    unfold delP
    rw [List.eraseP_cons]
    cases e : (x.pid == p)
    · rw [cond_false, List.map_cons]
      have ih := pids_del p h.2
      unfold delP at ih
      rw [ih]
      simp [keepP, e]
    · rw [cond_true]
      have hx : x.pid = p := by simpa using e
      have : keepP p (ps.map Pr.pid) = ps.map Pr.pid := keepP_none (by
        cases e2 : (ps.map Pr.pid).contains p
        · rfl
        · exact absurd (by simpa [hx] using e2) h.1)
      rw [List.map_cons]
      show _ = List.filter _ _
      rw [List.filter_cons, if_neg (by simp [hx])]
      exact this.symm
theorem some_contains (p : Int) : ∀ ps : List Pr, (pOf ps p).isSome = (ps.map Pr.pid).contains p
  | [] => rfl
  | x :: ps => by
    unfold pOf
    rw [List.find?_cons, List.map_cons, List.contains_cons]
    have ih := some_contains p ps
    unfold pOf at ih
    cases e : (x.pid == p)
    · rw [ih]
      have : (p == x.pid) = false := by rw [Bool.beq_comm]; exact e
      rw [this, Bool.false_or]
    · have : (p == x.pid) = true := by rw [Bool.beq_comm]; exact e
      rw [this]
      rfl
theorem its_newE {its : List It} {p : Int} {os : List (Int × Bool)} (hp : ∀ i ∈ its, i.pid = p) (ha : its.map It.arm = List.range its.length) (ho : its.map (fun i => (i.ch, i.sd)) = os) : elE its = newE p os os.length := by
  have hl : its.length = os.length := its_len ho
  refine List.ext_getElem (by rw [elE_len, newE_len, hl]) fun n h1 h2 => ?_
  rw [elE_len] at h1
  have e1 : (elE its)[n] = enC its[n] := by simp [elE]
  have e2 : its[n].arm = n := by
    have : (its.map It.arm)[n]'(by rw [List.length_map]; exact h1) = n := by simp only [ha]; simp
    simpa using this
  have e3 : (its[n].ch, its[n].sd) = os[n]'(by omega) := by
    have : (its.map fun i => (i.ch, i.sd))[n]'(by rw [List.length_map]; exact h1) = os[n]'(by omega) := by simp only [ho]
    simpa using this
  have e4 : (newE p os os.length)[n] = [.int .i64 p, .int .i64 (n : Nat), .int .i64 (os.getD n (0, false)).1, .bool (os.getD n (0, false)).2] := by simp [newE]
  rw [e1, e4, List.getD_eq_getElem?_getD, List.getElem?_eq_getElem (by omega : n < os.length), Option.getD_some, ← e3]
  unfold enC
  rw [hp _ (List.getElem_mem h1), e2]
theorem pid_in {B : Bo} (w : WF B) {i : It} (hi : i ∈ B.items) : (B.ps.map Pr.pid).contains i.pid = true := by
  rw [w.it] at hi
  obtain ⟨x, hx, hix⟩ := List.mem_flatMap.1 hi
  rw [w.pi x hx i hix]
  simpa using ⟨x, hx, rfl⟩
end Go.Proofs.Ytekgfneapofgpaa
