/- Contracts of functions that the law reaches. -/
import Derived.Test.Ytekgfneapofgpaah
set_option linter.unusedSimpArgs false
set_option linter.unusedVariables false
namespace Go.Proofs.Ytekgfneapofgpaa
open Go Go.RowKit Go.Proofs.Ytekgfneapofgpaa Go.Proofs.Ytekgfneapofgpaa.Lift

/-! Whatever waits -/
theorem its_len {its : List It} {os : List (Int × Bool)} (h : its.map (fun i => (i.ch, i.sd)) = os) : its.length = os.length := by rw [← h, List.length_map]
theorem items_snoc {B B' : Bo} (w : WF B) (w' : WF B') {pr : Pr} (h : B'.ps = B.ps ++ [pr]) : B'.items = B.items ++ pr.its := by
  rw [w'.it, h, w.it, List.flatMap_append]
  simp
theorem Wait_any (p : Int) (os : List (Int × Bool)) (hl : os.length ≤ 8) {h0 h : Heap} {B : Bo} (b : BOn h0 noG B h) (w : WF B) (hsz : B.items.length ≤ 800000) (ht : B.time ≤ 900000) :
    SCalls env 16 [adr B.rb, .int .i64 p, .list 2 (elO os)] h (fun e h' => ∃ n B', e = .ret (.int .i64 n) ∧ BOn h0 noG B' h' ∧ WF B' ∧ B'.rb = B.rb ∧ B'.items.length ≤ B.items.length + 8 ∧ B'.time ≤ B.time + 1) := by
  cases hp : pOf B.ps p with
  | some x =>
    refine (Wait_twice p os (by omega) b (by rw [hp]; rfl)).mono fun e h' q => ?_
    obtain ⟨rfl, rfl⟩ := q
    exact ⟨5, B, rfl, b, w, rfl, by omega, by omega⟩
  | none =>
    refine (Wait_ok p os (by omega) b w hp (by omega) (by omega)).mono fun e h' q => ?_
    obtain ⟨rfl, B', pr, b', w', e1, e2, e3, e4, e5⟩ := q
    refine ⟨0, B', rfl, b', w', e4, ?_, by omega⟩
    rw [items_snoc w w' e1, List.length_append, its_len e3]
    omega
def sFew (l : List ActS) : List PV → Prop × PV
  | [.list 3 xs] => (xs = elA l, .bool (fewS l))
  | _ => PBad
noncomputable def eFew (l : List ActS) : SpecE env := ⟨9, sFew l, fun args h hc => by
  unfold sFew at hc ⊢
  split at hc
  · rename_i xs
    have hc : xs = elA l := hc
    subst hc
    exact .inl (Few_ok l h)
  · exact hc.elim⟩
theorem few_of {l : List ActS} (h : fewS l = true) : l.length ≤ 40 ∧ ∀ x ∈ l, x.2.2.length ≤ 8 := by
  unfold fewS at h
  rw [Bool.and_eq_true] at h
  exact ⟨of_decide_eq_true h.1, fun x hx => of_decide_eq_true (List.all_eq_true.1 h.2 x hx)⟩
theorem elA_row {l : List ActS} {j : Nat} (h : j < l.length) : (elA l).getD j [] = [.int .u8 l[j].1, .int .i64 l[j].2.1, .list 2 (elO l[j].2.2)] := elA_at h
def sQueue (h0 : Heap) (B : Bo) : List PV → Heap → Prop × PV × Heap
  | [.val (.pointer (some ⟨a, 0, none⟩)), .int .i64 c, .bool s], h => (a = B.rb ∧ BOn h0 noG B h ∧ WF B ∧ B.items.length ≤ 1000000, .list 4 (elE (fil B.items c s)), h)
  | _, h => HBad h
noncomputable def eQueue (h0 : Heap) (B : Bo) : SpecH env := ⟨20, sQueue h0 B, fun args h hc => by
  unfold sQueue at hc ⊢
  split at hc
  · rename_i a c s
    obtain ⟨rfl, hb, hw, hl⟩ := hc
    exact Queue_ok c s hb hw hl
  · exact hc.elim⟩
theorem elE_at {l : List It} {i : Nat} (hlt : i < l.length) : (elE l).getD i [] = enC l[i] := by unfold elE; rw [List.getD_eq_getElem?_getD, List.getElem?_map, List.getElem?_eq_getElem hlt]; rfl
theorem any_take {α : Type} {f : α → Bool} {l : List α} {k : Nat} (hlt : k < l.length) : (l.take (k + 1)).any f = ((l.take k).any f || f l[k]) := by
  rw [List.take_add_one, List.getElem?_eq_getElem hlt, List.any_append]
  simp
theorem pOf_del {B : Bo} (w : WF B) (p : Int) : pOf (delP p B.ps) p = none := by
  unfold pOf
  rw [List.find?_eq_none]
  intro x hx
  have := ((delP_mem w.pn).1 hx).2
  simpa using this
theorem items_del {B B' : Bo} (w : WF B) (w' : WF B') {p : Int} (h : B'.ps = delP p B.ps) : B'.items = keepS (fun i => i.pid == p) B.items := by
  rw [w'.it, h, delP_items w.pn w.pi, w.it]
theorem keep_len (g : It → Bool) (l : List It) : (keepS g l).length ≤ l.length := List.length_filter_le _ _
end Go.Proofs.Ytekgfneapofgpaa
