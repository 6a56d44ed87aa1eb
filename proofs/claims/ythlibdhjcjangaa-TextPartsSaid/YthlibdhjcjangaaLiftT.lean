/- Slice literals of one's own. -/
import Derived.Test.YthlibdhjcjangaaLiftS
set_option linter.unusedSimpArgs false
set_option linter.unusedVariables false
namespace Go.Proofs.Ythlibdhjcjangaa.Lift
open Go Go.RowKit

section
variable {E : Env} {w w1 w' : World} {I I1 I' : Nat → Prop} {G G1 G' : Nat → Option Nat} {h : Heap}
/-- A slice literal that will be written: a row of one's own. -/
theorem SWO.buildOwn {ops : Array Oper} {o : Oper} {rest : List Oper} {Q : Exit → AS → Prop} {a : AS} (t : TypeId) (len : Nat) (parts : Array (Nat × Operand)) (hop : o.op = .buildSlice t len parts) {i ie : TyI} {e : TypeId} {xs : List (List PV)} (ht : E.ty t = some i) (hk : i.k = .slice e) (he : E.ty e = some ie) (hlen : len * ie.size ≤ 16777216) (hlm : len ≤ 16777216) (hzl : ie.zero.length = ie.size) (hz : okZero ie = true)
    (hkn : known (evParts E a parts.toList) = true) (hf : pfill (fun i => some (i * ie.size, ie.size)) (List.replicate len (ie.zero.map ofVal)).flatten (evParts E a parts.toList) = some xs.flatten) (hw : ∀ x ∈ xs, x.length = ie.size) (hxl : xs.length = len) (hg : wantedA ops a o = some true) (hd : okDst a.n o.dst = true)
    (k : ∀ v h', Own a.h e ie.size xs v h' → SWO E ops rest Q { a.put o.dst v with h := h' }) : SWO E ops (o :: rest) Q a := by
  refine SWO.to hg hd fun w I G act g r => ?_
  obtain ⟨us, hrun, hr⟩ := run_buildSlice g r t len parts ht hk he hlen hzl hz hkn hf
  have hul := hr.length
  have hfl := flatten_len hw
  have hk2 : Keeps w I (w.alloc (.cells us.toArray e)) I := fun k hk => ⟨hk, heap_alloc_lt w _ k (g.imm k hk)⟩
  have hob : RObj (w.alloc (.cells us.toArray e)) I G w.heap.size (.cells e (len * ie.size) xs.flatten) :=
    ⟨us, [], by rw [heap_alloc_at, List.append_nil], RL.keeps hk2 _ _ hr, by rw [hul, hfl, hxl, List.length_nil, Nat.add_zero]⟩
  obtain ⟨g', s⟩ := g.alloc_own' _ hob
  refine ⟨_, .slice (some ⟨w.heap.size, 0, none⟩) len len, _, I, G, _, .val (.slice (some ⟨w.heap.size, 0, none⟩) len len), ?_, .inl rfl, g', s, ⟨rfl, rfl⟩, k _ _ (.inr ⟨w.heap.size, len, by rw [hxl], by omega, by simp only [maxLen]; omega, g.fresh, rfl, hw⟩)⟩
  simp only [execOp, hop, Sem.run_bind, hrun]
  rfl
/-! ### What is owned, seen in another way, in the midst of code -/
theorem SW.turnTo {c : Code} {Q : Exit → AS → Prop} {a : AS} {h' : Heap} (ht : HTo E a.h h') (k : SW E c Q { a with h := h' }) : SW E c Q a := by
  intro w I G act g r
  obtain ⟨I', G', g', s⟩ := ht w I G g
  have r1 := r.keeps (s.keeps g)
  exact wp_mono (k w I' G' act g' ⟨r1.defers, r1.size, r1.slot⟩) fun _ _ _ p => p.trans s
/-- A loop whose rounds leave more than they found: it is forgotten. -/
theorem SW.loopH {β : Type} {c : Code} {Q : Exit → AS → Prop} {a : AS} (n : Nat) (l : β → List (Nat × PV)) (H : β → Heap) (Inv : β → Prop) (m : β → Nat) (b0 : β) (h0 : Inv b0) (start : a.n = n ∧ HTo E a.h (H b0) ∧ hasAll a (l b0))
    (round : ∀ b, Inv b → SW E c (thenQ (fun a' => ∃ b', Inv b' ∧ m b' < m b ∧ a'.n = n ∧ HTo E a'.h (H b') ∧ hasAll a' (l b')) Q) ⟨n, l b, H b⟩) : SW E (.loop c) Q a := by
  refine SW.loop (fun k a => ∃ b, Inv b ∧ m b = k ∧ a.n = n ∧ HTo E a.h (H b) ∧ hasAll a (l b)) (m b0) ⟨b0, h0, rfl, start⟩ ?_
  rintro k a ⟨b, hb, rfl, hn, ht, hs⟩
  refine SW.turnTo ht ?_
  refine SW.norm (n := n) (l := l b) (h := H b) ⟨hn, rfl, ?_⟩ ((round b hb).mono fun e a' q => ?_)
  · have key : ∀ (l : List (Nat × PV)), hasAll a l → hasAll { a with h := H b } l := by
      intro l
      induction l with
      | nil => intro _; trivial
      | cons x l ih => intro h; exact ⟨h.1, ih h.2⟩
    exact key _ hs
  · cases e with
    | normal =>
      obtain ⟨b', h1, h2, h3⟩ := q
      exact ⟨m b', h2, b', h1, rfl, h3⟩
    | _ => exact q
end
end Go.Proofs.Ythlibdhjcjangaa.Lift
