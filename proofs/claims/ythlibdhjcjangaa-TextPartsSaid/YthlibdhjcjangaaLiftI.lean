/- Memory that is made, written, appended to. -/
import Derived.Test.YthlibdhjcjangaaLiftH
import Derived.Maps.AppendAt
import Derived.Lib.AppendStr
import Derived.Laws.CopyRow
import Derived.Laws.AppendOwn
set_option linter.unusedSimpArgs false
set_option linter.unusedVariables false
namespace Go.Proofs.Ythlibdhjcjangaa.Lift
open Go Go.RowKit

section
variable {E : Env} {w w1 w' : World} {I I1 I' : Nat → Prop} {G G1 G' : Nat → Option Nat} {h h' : Heap}

theorem RObj.keeps {r : Nat} {o : AObj} (hk : Keeps w I w' I') (hr : w'.heap[r]? = w.heap[r]?) (hG : ∀ k, G k = some r → G' k = some r ∧ w'.heap[k]? = w.heap[k]?) (ho : RObj w I G r o) : RObj w' I' G' r o := by
  cases o with
  | cells t size cs =>
    obtain ⟨us, rest, hh, h1, h2⟩ := ho
    exact ⟨us, rest, hr.trans hh, RL.keeps hk _ _ h1, h2⟩
  | iter s pos => exact hr.trans ho
  | bld T e bs =>
    rcases ho with ⟨h1, p, h2, h3⟩ | ⟨k, cap, rest, h1, h2, h3, h4, h5⟩
    · exact .inl ⟨h1, p, h2, hr.trans h3⟩
    · exact .inr ⟨k, cap, rest, (hG k h1).1, hr.trans h2, (hG k h1).2.trans h3, h4, h5⟩

/-- A new block that nobody writes, or one's own; all else stands. -/
theorem Good.alloc_imm (g : Good E w I G h) (hsz : w'.heap.size = w.heap.size + 1) (hb : ∀ k, k < w.heap.size → w'.heap[k]? = w.heap[k]?) (ho : w'.os = w.os) (ht : w'.tape = w.tape) (hout : w'.output = w.output) :
    Good E w' (fun k => I k ∨ k = w.heap.size) G h ∧ Stp w I G h w' (fun k => I k ∨ k = w.heap.size) G h := by
  have hk : Keeps w I w' (fun k => I k ∨ k = w.heap.size) := fun k hk => ⟨.inl hk, hb k (g.imm k hk)⟩
  refine ⟨⟨fun r o hr => ?_, fun k r hk' => ?_, fun k hk' => ?_, fun gl cs hgl => R1.keeps hk _ _ (g.glob gl cs hgl)⟩, ⟨ho, ht, hout, by omega, fun k hk' a b => ⟨hb k hk', a, b⟩, fun k hk' => .inl hk', fun k hk' a b hi => ?_⟩⟩
  · obtain ⟨h1, h2, h3, h4⟩ := g.own r o hr
    exact ⟨by omega, fun hi => by rcases hi with hi | hi; exact h2 hi; omega, h3, h4.keeps hk (hb r h1) (fun k hk' => ⟨hk', hb k (g.hid k r hk').1⟩)⟩
  · obtain ⟨h1, h2, h3, h4⟩ := g.hid k r hk'
    exact ⟨by omega, fun hi => by rcases hi with hi | hi; exact h2 hi; omega, h3, h4⟩
  · rcases hk' with hk' | hk'
    · have := g.imm k hk'; omega
    · omega
  · rcases hi with hi | hi
    · exact hi
    · omega
theorem Good.fresh (g : Good E w I G h) : h w.heap.size = none := by
  cases e : h w.heap.size with
  | none => rfl
  | some o => have := (g.own _ _ e).1; omega
theorem Good.freshG (g : Good E w I G h) : G w.heap.size = none := by
  cases e : G w.heap.size with
  | none => rfl
  | some o => have := (g.hid _ _ e).1; omega
theorem Good.freshI (g : Good E w I G h) : ¬ I w.heap.size := fun hi => by have := g.imm _ hi; omega
theorem Good.alloc_own (g : Good E w I G h) (hsz : w'.heap.size = w.heap.size + 1) (hb : ∀ k, k < w.heap.size → w'.heap[k]? = w.heap[k]?) (ho : w'.os = w.os) (ht : w'.tape = w.tape) (hout : w'.output = w.output) {ob : AObj} (hob : RObj w' I G w.heap.size ob) :
    Good E w' I G (h.put w.heap.size ob) ∧ Stp w I G h w' I G (h.put w.heap.size ob) := by
  have hk : Keeps w I w' I := fun k hk => ⟨hk, hb k (g.imm k hk)⟩
  refine ⟨⟨fun r o hr => ?_, fun k r hk' => ?_, fun k hk' => ?_, fun gl cs hgl => R1.keeps hk _ _ (g.glob gl cs hgl)⟩, ⟨ho, ht, hout, by omega, fun k hk' a b => ⟨hb k hk', ?_, b⟩, fun k hk' => hk', fun k hk' a b hi => hi⟩⟩
  · by_cases e : r = w.heap.size
    · subst e
      rw [Heap.put_same] at hr
      injection hr with hr; subst hr
      exact ⟨by omega, g.freshI, g.freshG, hob⟩
    · rw [Heap.put_ne _ _ e] at hr
      obtain ⟨h1, h2, h3, h4⟩ := g.own r o hr
      exact ⟨by omega, h2, h3, h4.keeps hk (hb r h1) (fun k hk' => ⟨hk', hb k (g.hid k r hk').1⟩)⟩
  · obtain ⟨h1, h2, h3, T, e, bs, h4⟩ := g.hid k r hk'
    have := (g.own _ _ h4).1
    exact ⟨by omega, h2, by rw [Heap.put_none]; exact ⟨by omega, h3⟩, T, e, bs, by rw [Heap.put_ne _ _ (by omega)]; exact h4⟩
  · have := g.imm k hk'; omega
  · rw [Heap.put_none]; exact ⟨by omega, a⟩
def AObj.plain : AObj → Bool
  | .bld .. => false
  | _ => true
theorem Good.noHid (g : Good E w I G h) {r : Nat} {o : AObj} (hr : h r = some o) (hp : o.plain = true) : ∀ k, G k ≠ some r := by
  intro k hk
  obtain ⟨_, _, _, T, e, bs, h4⟩ := g.hid k r hk
  rw [hr] at h4
  injection h4 with h4
  subst h4
  cases hp
/-- A block of one's own is written. -/
theorem Good.write (g : Good E w I G h) {r : Nat} {o ob : AObj} (hr : h r = some o) (hp : o.plain = true) (hsz : w'.heap.size = w.heap.size) (hb : ∀ k, k ≠ r → w'.heap[k]? = w.heap[k]?) (ho : w'.os = w.os) (ht : w'.tape = w.tape) (hout : w'.output = w.output) (hob : RObj w' I G r ob) :
    Good E w' I G (h.put r ob) ∧ Stp w I G h w' I G (h.put r ob) := by
  obtain ⟨r1, r2, r3, _⟩ := g.own r o hr
  have hnh := g.noHid hr hp
  have hk : Keeps w I w' I := fun k hk => ⟨hk, hb k (fun e => r2 (e ▸ hk))⟩
  refine ⟨⟨fun q o' hq => ?_, fun k q hk' => ?_, fun k hk' => ?_, fun gl cs hgl => R1.keeps hk _ _ (g.glob gl cs hgl)⟩, ⟨ho, ht, hout, by omega, fun k hk' a b => ⟨hb k (fun e => by subst e; rw [hr] at a; cases a), ?_, b⟩, fun k hk' => hk', fun k hk' a b hi => hi⟩⟩
  · by_cases e : q = r
    · subst e
      rw [Heap.put_same] at hq
      injection hq with hq; subst hq
      exact ⟨by omega, r2, r3, hob⟩
    · rw [Heap.put_ne _ _ e] at hq
      obtain ⟨h1, h2, h3, h4⟩ := g.own q o' hq
      exact ⟨by omega, h2, h3, h4.keeps hk (hb q e) (fun k hk' => ⟨hk', hb k (fun e' => by subst e'; have := (g.hid k q hk').2.2.1; rw [hr] at this; cases this)⟩)⟩
  · obtain ⟨h1, h2, h3, T, e', bs, h4⟩ := g.hid k q hk'
    have hqr : q ≠ r := fun e => hnh k (by rw [hk', e])
    refine ⟨by omega, h2, ?_, T, e', bs, ?_⟩
    · rw [Heap.put_none]
      exact ⟨fun e => (by subst e; rw [hr] at h3; cases h3), h3⟩
    · rw [Heap.put_ne _ _ hqr]; exact h4
  · have := g.imm k hk'; omega
  · rw [Heap.put_none]; exact ⟨fun e => (by subst e; rw [hr] at a; cases a), a⟩
/-- A block of one's own is let go: nobody writes it any more. -/
theorem Good.let_go (g : Good E w I G h) {r : Nat} {o : AObj} (hr : h r = some o) (hp : o.plain = true) : Good E w (fun k => I k ∨ k = r) G (h.del r) ∧ Stp w I G h w (fun k => I k ∨ k = r) G (h.del r) := by
  obtain ⟨r1, r2, r3, _⟩ := g.own r o hr
  have hnh := g.noHid hr hp
  have hk : Keeps w I w (fun k => I k ∨ k = r) := fun k hk => ⟨.inl hk, rfl⟩
  refine ⟨⟨fun q o' hq => ?_, fun k q hk' => ?_, fun k hk' => ?_, fun gl cs hgl => R1.keeps hk _ _ (g.glob gl cs hgl)⟩, ⟨rfl, rfl, rfl, by omega, fun k hk' a b => ⟨rfl, ?_, b⟩, fun k hk' => .inl hk', fun k hk' a b hi => ?_⟩⟩
  · by_cases e : q = r
    · subst e; rw [Heap.del_same] at hq; cases hq
    · rw [Heap.del_ne _ e] at hq
      obtain ⟨h1, h2, h3, h4⟩ := g.own q o' hq
      exact ⟨h1, fun hi => by rcases hi with hi | hi; exact h2 hi; exact e hi, h3, h4.keeps hk rfl (fun k hk' => ⟨hk', rfl⟩)⟩
  · obtain ⟨h1, h2, h3, T, e', bs, h4⟩ := g.hid k q hk'
    have hqr : q ≠ r := fun e => hnh k (by rw [hk', e])
    refine ⟨h1, fun hi => (by rcases hi with hi | hi; exact h2 hi; subst hi; rw [hr] at h3; cases h3), ?_, T, e', bs, (Heap.del_ne h hqr).trans h4⟩
    by_cases e : k = r
    · subst e; exact Heap.del_same _ _
    · rw [Heap.del_ne _ e]; exact h3
  · rcases hk' with hk' | hk'
    · exact g.imm k hk'
    · omega
  · by_cases e : k = r
    · subst e; exact Heap.del_same _ _
    · rw [Heap.del_ne _ e]; exact a
  · rcases hi with hi | hi
    · exact hi
    · subst hi; rw [hr] at a; cases a

/-- An operation yields a value in a world that has grown; what is owned stands. -/
def YldW (E : Env) (a : AS) (op : Op) (v : PV) : Prop :=
  ∀ w I G act (o : Oper), o.op = op → Good E w I G a.h → RS w I a act → ∃ u w' I', (execOp act.eval o).run E.P w = .ok (.value u) w' ∧ Good E w' I' G a.h ∧ Stp w I G a.h w' I' G a.h ∧ R w' I' v u
theorem put_h (a : AS) (d : Option Tmp) (v : PV) : (a.put d v).h = a.h := by cases d <;> rfl
theorem SWO.yldw {ops : Array Oper} {o : Oper} {rest : List Oper} {Q : Exit → AS → Prop} {a : AS} {v : PV} (hy : YldW E a o.op v) (hg : wantedA ops a o = some true) (hd : okDst a.n o.dst = true)
    (k : SWO E ops rest Q (a.put o.dst v)) : SWO E ops (o :: rest) Q a := by
  refine SWO.to hg hd fun w I G act g r => ?_
  obtain ⟨u, w', I', hu, g', s, hv⟩ := hy w I G act o rfl g r
  refine ⟨_, u, w', I', G, a.h, v, hu, .inl rfl, g', s, hv, ?_⟩
  have e : ({ a.put o.dst v with h := a.h } : AS) = a.put o.dst v := by rw [← put_h a o.dst v]
  rw [e]; exact k

/-! ### Slice literals -/
theorem heap_alloc_lt (w : World) (o : Obj) (k : Nat) (hk : k < w.heap.size) : (w.alloc o).heap[k]? = w.heap[k]? := Below.heap_alloc w o k hk
theorem heap_alloc_at (w : World) (o : Obj) : (w.alloc o).heap[w.heap.size]? = some o := by
  show (w.heap.push o)[w.heap.size]? = some o
  simp
theorem run_newRow (t : TypeId) (cs : Array Value) (w : World) : (newRow t cs).run E.P w = .ok ⟨w.heap.size, 0, none⟩ (w.alloc (.cells cs t)) := rfl
/-- The cells of a row of zeros. -/
theorem zeroRow (z : List Value) (n : Nat) : ((Array.range (n * z.length)).map (z.toArray[· % z.toArray.size]!)) = (List.replicate n z).flatten.toArray := by
  apply Array.ext'
  simp only [Array.toList_map, Array.toList_range, List.size_toArray]
  induction n with
  | zero => simp
  | succ n ih =>
    rw [Nat.add_mul, Nat.one_mul, List.range_add, List.map_append, ih, List.replicate_succ', List.flatten_append]
    congr 1
    simp only [List.map_map, List.flatten_cons, List.flatten_nil, List.append_nil]
    apply List.ext_getElem
    · simp
    · intro j h1 h2
      simp only [List.length_map, List.length_range] at h1
      simp [Nat.mul_add_mod_of_lt h1, h1, Nat.mod_eq_of_lt h1, Nat.add_comm, Nat.mul_comm n]
end
end Go.Proofs.Ythlibdhjcjangaa.Lift
