/- String iterators, builders, addresses without a type. -/
import Derived.Test.YthlibdhjcjangaaLiftQ
import Derived.Laws.RangeString
import Derived.Lib.OthersKept
import Derived.Laws.BitsLemmas
set_option linter.unusedSimpArgs false
set_option linter.unusedVariables false
namespace Go.Proofs.Ythlibdhjcjangaa.Lift
open Go Go.RowKit

section
variable {E : Env} {S : Specs E} {w w1 w' : World} {I I1 I' : Nat → Prop} {G G1 G' : Nat → Option Nat} {h h' : Heap}

/-! ### Strings, character by character -/
theorem SWO.range_str {ops : Array Oper} {o : Oper} {rest : List Oper} {Q : Exit → AS → Prop} {a : AS} (t : TypeId) (x : Operand) (hop : o.op = .range t x) {i : TyI} (ht : E.ty t = some i) (hk : i.k = .str) {l : List UInt8} (hx : a.eval E x = .str l) (hg : wantedA ops a o = some true) (hd : okDst a.n o.dst = true)
    (k : ∀ r, a.h r = none → SWO E ops rest Q { a.put o.dst (.val (.pointer (some ⟨r, 0, none⟩))) with h := a.h.put r (.iter l 0) }) : SWO E ops (o :: rest) Q a := by
  refine SWO.to hg hd fun w I G act g r => ?_
  have hx' := r.eval g x
  rw [hx] at hx'
  have hx' : act.eval x = .string ⟨l.toArray⟩ := hx'
  have hdt := ty_under ht
  rw [hk] at hdt
  have hr := run_range_string (P := E.P) w t ⟨l.toArray⟩ hdt
  obtain ⟨g', s⟩ := g.alloc_own' (.stringIter ⟨l.toArray⟩ 0) (ob := .iter l 0) (by show _ = _; rw [heap_alloc_at])
  refine ⟨_, .pointer (some ⟨w.heap.size, 0, none⟩), _, I, G, _, .val (.pointer (some ⟨w.heap.size, 0, none⟩)), ?_, .inl rfl, g', s, ⟨rfl, rfl⟩, k _ g.fresh⟩
  simp only [execOp, hop, hx', Sem.run_bind]
  rw [hr]
  rfl
/-- The character at a place, and how many bytes it takes. -/
def decAt (l : List UInt8) (pos : Nat) : Int × Nat := ((Utf8.decode ⟨l.toArray⟩ pos).1, (Utf8.decode ⟨l.toArray⟩ pos).2)
theorem SWO.next_more {ops : Array Oper} {o : Oper} {rest : List Oper} {Q : Exit → AS → Prop} {a : AS} (x : Operand) (hop : o.op = .next x true) {r0 pos : Nat} {l : List UInt8} (hx : a.eval E x = .val (.pointer (some ⟨r0, 0, none⟩))) (hr0 : a.h r0 = some (.iter l pos)) (hlt : pos < l.length) (hg : wantedA ops a o = some true) (hd : okDst a.n o.dst = true)
    (k : SWO E ops rest Q { a.put o.dst (.tuple [.bool true, .int .i64 pos, .int .i32 (decAt l pos).1]) with h := a.h.put r0 (.iter l (pos + (decAt l pos).2)) }) : SWO E ops (o :: rest) Q a := by
  refine SWO.to hg hd fun w I G act g r => ?_
  have hx' := r.eval g x
  rw [hx] at hx'
  have hx' := R_val hx'
  have hb : w.heap[r0]? = some (.stringIter ⟨l.toArray⟩ pos) := (g.own _ _ hr0).2.2.2
  have hr := Lib.run_next_any_at (P := E.P) w r0 ⟨l.toArray⟩ pos o.type hb (by rw [size_mk]; exact hlt)
  obtain ⟨g', s⟩ := g.write (w' := w.iterAt r0 ⟨l.toArray⟩ (pos + (decAt l pos).2)) (ob := .iter l (pos + (decAt l pos).2)) hr0 rfl (Lib.iterAt_size ..) (fun k hk => Lib.iterAt_other _ _ _ _ _ hk) rfl rfl rfl (Lib.iterAt_heap _ _ _ _ _ hb)
  refine ⟨_, .tuple #[.bool true, .int .i64 pos, .int .i32 (Utf8.decode ⟨l.toArray⟩ pos).1], _, I, G, _, .tuple [.bool true, .int .i64 pos, .int .i32 (decAt l pos).1], ?_, .inl rfl, g', s, ⟨_, rfl, _, _, rfl, rfl, _, _, rfl, rfl, _, _, rfl, rfl, rfl⟩, k⟩
  simp only [execOp, hop, hx', Sem.run_bind]
  rw [hr]
  rfl
theorem SWO.next_end {ops : Array Oper} {o : Oper} {rest : List Oper} {Q : Exit → AS → Prop} {a : AS} (x : Operand) (hop : o.op = .next x true) {r0 pos : Nat} {l : List UInt8} (hx : a.eval E x = .val (.pointer (some ⟨r0, 0, none⟩))) (hr0 : a.h r0 = some (.iter l pos)) (hlt : ¬ pos < l.length) (hg : wantedA ops a o = some true) (hd : okDst a.n o.dst = true)
    (k : SWO E ops rest Q (a.put o.dst (.tuple [.bool false]))) : SWO E ops (o :: rest) Q a := by
  refine SWO.val (.tuple [.bool false]) hg hd (fun w I G act g r => ?_) k
  have hx' := r.eval g x
  rw [hx] at hx'
  have hx' := R_val hx'
  have hb : w.heap[r0]? = some (.stringIter ⟨l.toArray⟩ pos) := (g.own _ _ hr0).2.2.2
  have hr := Lib.run_next_end_at (P := E.P) w r0 ⟨l.toArray⟩ pos o.type hb (by rw [size_mk]; exact hlt)
  refine ⟨.tuple #[.bool false], ?_, _, rfl, _, _, rfl, rfl, rfl⟩
  simp only [execOp, hop, hx', Sem.run_bind]
  rw [hr]
  rfl

theorem XCalls.noEscape {f : FuncId} {fn : Func} (hf : E.P.funcs[f]? = some fn) (hname : (fn.name == "runtime.NumGoroutine") = false) (hb : fn.body.isNone = true) (hn : Extern.findNext fn = none) (he : Extern.find fn = some Extern.AbiNoEscape.same) (v : Value) (hv : v.oneCell' = true) (h : Heap) :
    XCalls E f [.val v] h (.val v) := by
  intro w I G vs g r
  obtain ⟨u, us, rfl, h1, h2⟩ := r
  have h2 : us = [] := h2
  subst h2
  have h1 : u = v ∧ _ := h1
  obtain ⟨rfl, _⟩ := h1
  refine ⟨u, ?_, ⟨rfl, hv⟩⟩
  rw [run_callFunc_extern hf hname hb hn he, Lib.run_noEscape]
  rfl

/-! ### Builders -/
/-- The bytes of a builder as cells. -/
def bytePVs (bs : List UInt8) : List PV := bs.map fun b => .int .u8 b.toNat
theorem RL_bytePVs (w : World) (I : Nat → Prop) (bs : List UInt8) : RL w I (bytePVs bs) (byteVals bs) := by
  induction bs with
  | nil => rfl
  | cons b bs ih => exact ⟨_, _, rfl, rfl, ih⟩
def dropG (G : Nat → Option Nat) (r : Nat) : Nat → Option Nat := fun k => if G k = some r then none else G k
/-- A builder is opened: its struct and its row lie bare. -/
theorem Good.unfold (g : Good E w I G h) {r : Nat} {T e : TypeId} {bs : List UInt8} (hr : h r = some (.bld T e bs)) :
    (bs = [] ∧ ∃ p G', (p = none ∨ p = some ⟨r, 0, none⟩) ∧ Good E w I G' (h.put r (.cells T 2 [.val (.pointer p), .val (.slice none 0 0)])) ∧ Stp w I G h w I G' (h.put r (.cells T 2 [.val (.pointer p), .val (.slice none 0 0)]))) ∨
    (∃ k cap G', h k = none ∧ k ≠ r ∧ bs.length ≤ cap ∧ cap ≤ maxLen ∧ 0 < cap ∧
      Good E w I G' ((h.put r (.cells T 2 [.val (.pointer (some ⟨r, 0, none⟩)), .val (.slice (some ⟨k, 0, none⟩) bs.length cap)])).put k (.cells e cap (bytePVs bs))) ∧
      Stp w I G h w I G' ((h.put r (.cells T 2 [.val (.pointer (some ⟨r, 0, none⟩)), .val (.slice (some ⟨k, 0, none⟩) bs.length cap)])).put k (.cells e cap (bytePVs bs)))) := by
  obtain ⟨r1, r2, r3, hob⟩ := g.own r _ hr
  have dn : ∀ k, G k = none → dropG G r k = none := fun k e1 => by unfold dropG; rw [e1]; rfl
  have ds : ∀ k q, dropG G r k = some q → G k = some q ∧ q ≠ r := fun k q e1 => by
    unfold dropG at e1
    split at e1
    · cases e1
    · rename_i hne; exact ⟨e1, fun e2 => hne (by rw [e1, e2])⟩
  have dk : ∀ k q, q ≠ r → G k = some q → dropG G r k = some q := fun k q hq e1 => by
    unfold dropG
    rw [if_neg (fun e2 => hq (by rw [e1] at e2; injection e2)), e1]
  have old : ∀ q o, q ≠ r → h q = some o → q < w.heap.size ∧ ¬ I q ∧ dropG G r q = none ∧ RObj w I (dropG G r) q o := fun q o hqr hq => by
    obtain ⟨h1, h2, h3, h4⟩ := g.own q o hq
    exact ⟨h1, h2, dn q h3, h4.keeps (fun k hk => ⟨hk, rfl⟩) rfl (fun k hk => ⟨dk k q hqr hk, rfl⟩)⟩
  rcases hob with ⟨hbs, p, hp, hcell⟩ | ⟨k, cap, rest, hk, hcell, hrow, hlen, hcm, hc0⟩
  · left
    refine ⟨hbs, p, dropG G r, hp, ⟨fun q o hq => ?_, fun k q hk' => ?_, g.imm, g.glob⟩, ⟨rfl, rfl, rfl, Nat.le_refl _, fun k _ a b => ⟨rfl, ?_, dn k b⟩, fun _ h => h, fun _ _ _ _ h => h⟩⟩
    · by_cases e1 : q = r
      · subst e1
        rw [Heap.put_same] at hq
        injection hq with hq; subst hq
        exact ⟨r1, r2, dn _ r3, [.pointer p, .slice none 0 0], [], hcell, ⟨_, _, rfl, ⟨rfl, rfl⟩, _, _, rfl, ⟨rfl, rfl⟩, rfl⟩, rfl⟩
      · rw [Heap.put_ne _ _ e1] at hq
        exact old q o e1 hq
    · obtain ⟨e1, e2⟩ := ds k q hk'
      obtain ⟨h1, h2, h3, T', e', bs', h4⟩ := g.hid k q e1
      exact ⟨h1, h2, by rw [Heap.put_none]; exact ⟨fun e3 => (by subst e3; rw [hr] at h3; cases h3), h3⟩, T', e', bs', by rw [Heap.put_ne _ _ e2]; exact h4⟩
    · rw [Heap.put_none]
      exact ⟨fun e3 => (by subst e3; rw [hr] at a; cases a), a⟩
  · right
    obtain ⟨k1, k2, k3, _⟩ := g.hid k r hk
    have hkr : k ≠ r := fun e1 => (by subst e1; rw [hr] at k3; cases k3)
    refine ⟨k, cap, dropG G r, k3, hkr, by omega, hcm, hc0, ⟨fun q o hq => ?_, fun j q hj => ?_, g.imm, g.glob⟩, ⟨rfl, rfl, rfl, Nat.le_refl _, fun j _ a b => ⟨rfl, ?_, dn j b⟩, fun _ h => h, fun _ _ _ _ h => h⟩⟩
    · by_cases e1 : q = k
      · subst e1
        rw [Heap.put_same] at hq
        injection hq with hq; subst hq
        exact ⟨k1, k2, by unfold dropG; rw [if_pos hk], _, rest, hrow, RL_bytePVs w I bs, by simpa [byteVals] using hlen⟩
      · rw [Heap.put_ne _ _ e1] at hq
        by_cases e2 : q = r
        · subst e2
          rw [Heap.put_same] at hq
          injection hq with hq; subst hq
          exact ⟨r1, r2, dn _ r3, [.pointer (some ⟨q, 0, none⟩), .slice (some ⟨k, 0, none⟩) bs.length cap], [], hcell, ⟨_, _, rfl, ⟨rfl, rfl⟩, _, _, rfl, ⟨rfl, rfl⟩, rfl⟩, rfl⟩
        · rw [Heap.put_ne _ _ e2] at hq
          exact old q o e2 hq
    · obtain ⟨e1, e2⟩ := ds j q hj
      obtain ⟨h1, h2, h3, T', e', bs', h4⟩ := g.hid j q e1
      have hjk : j ≠ k := fun e3 => (by subst e3; rw [hk] at e1; injection e1 with e1; exact e2 e1.symm)
      have hqk : q ≠ k := fun e3 => (by subst e3; rw [k3] at h4; cases h4)
      refine ⟨h1, h2, ?_, T', e', bs', ?_⟩
      · rw [Heap.put_none, Heap.put_none]
        exact ⟨hjk, fun e3 => (by subst e3; rw [hr] at h3; cases h3), h3⟩
      · rw [Heap.put_ne _ _ hqk, Heap.put_ne _ _ e2]; exact h4
    · rw [Heap.put_none, Heap.put_none]
      exact ⟨fun e3 => (by subst e3; rw [hk] at b; cases b), fun e3 => (by subst e3; rw [hr] at a; cases a), a⟩
theorem RL_two {x y : Value} {us rest : List Value} (hr : RL w I [.val x, .val y] us) (hl : us.length + rest.length = 2) : (us ++ rest).toArray = #[x, y] := by
  obtain ⟨u, us', rfl, ⟨rfl, _⟩, u2, us2, rfl, ⟨rfl, _⟩, h3⟩ := hr
  have h3 : us2 = [] := h3
  subst h3
  have : rest = [] := by simpa using hl
  subst this
  rfl
/-- A builder is closed. -/
theorem Good.fold_row (g : Good E w I G h) {r k cap : Nat} {T e : TypeId} {bs : List UInt8} (hr : h r = some (.cells T 2 [.val (.pointer (some ⟨r, 0, none⟩)), .val (.slice (some ⟨k, 0, none⟩) bs.length cap)])) (hk : h k = some (.cells e cap (bytePVs bs))) (hkr : k ≠ r) (hcm : cap ≤ maxLen) (hc0 : 0 < cap) :
    ∃ G', Good E w I G' ((h.del k).put r (.bld T e bs)) ∧ Stp w I G h w I G' ((h.del k).put r (.bld T e bs)) := by
  obtain ⟨r1, r2, r3, us, rest, hcell, hrl, hsz⟩ := g.own r _ hr
  obtain ⟨k1, k2, k3, us2, rest2, hrow, hrl2, hsz2⟩ := g.own k _ hk
  have hus2 := RL_byteVals hrl2
  subst hus2
  rw [RL_two hrl hsz] at hcell
  refine ⟨fun j => if j = k then some r else G j, ⟨fun q o hq => ?_, fun j q hj => ?_, g.imm, g.glob⟩, ⟨rfl, rfl, rfl, Nat.le_refl _, fun j _ a b => ⟨rfl, ?_, ?_⟩, fun _ h => h, fun _ _ _ _ h => h⟩⟩
  · by_cases e1 : q = r
    · subst e1
      rw [Heap.put_same] at hq
      injection hq with hq; subst hq
      refine ⟨r1, r2, by rw [if_neg (fun e2 => hkr e2.symm)]; exact r3, .inr ⟨k, cap, rest2, if_pos rfl, hcell, hrow, by simpa [byteVals] using hsz2, hcm, hc0⟩⟩
    · rw [Heap.put_ne _ _ e1] at hq
      have e2 : q ≠ k := fun e2 => (by subst e2; rw [Heap.del_same] at hq; cases hq)
      rw [Heap.del_ne _ e2] at hq
      obtain ⟨h1, h2, h3, h4⟩ := g.own q o hq
      refine ⟨h1, h2, by rw [if_neg e2]; exact h3, h4.keeps (fun k hk => ⟨hk, rfl⟩) rfl (fun j hj => ⟨?_, rfl⟩)⟩
      rw [if_neg (fun e3 => (by subst e3; have := (g.hid _ _ hj).2.2.1; rw [hk] at this; cases this))]
      exact hj
  · by_cases e1 : j = k
    · subst e1
      rw [if_pos rfl] at hj
      injection hj with hj; subst hj
      exact ⟨k1, k2, by rw [Heap.put_none]; exact ⟨hkr, Heap.del_same _ _⟩, T, e, bs, Heap.put_same _ _ _⟩
    · rw [if_neg e1] at hj
      obtain ⟨h1, h2, h3, T', e', bs', h4⟩ := g.hid j q hj
      have hqr : q ≠ r := fun e3 => (by subst e3; rw [hr] at h4; cases h4)
      have hqk : q ≠ k := fun e3 => (by subst e3; rw [hk] at h4; cases h4)
      refine ⟨h1, h2, ?_, T', e', bs', by rw [Heap.put_ne _ _ hqr, Heap.del_ne _ hqk]; exact h4⟩
      rw [Heap.put_none, Heap.del_ne _ e1]
      exact ⟨fun e3 => (by subst e3; rw [hr] at h3; cases h3), h3⟩
  · have e1 : j ≠ k := fun e3 => (by subst e3; rw [hk] at a; cases a)
    rw [Heap.put_none, Heap.del_ne _ e1]
    exact ⟨fun e3 => (by subst e3; rw [hr] at a; cases a), a⟩
  · rw [if_neg (fun e3 => (by subst e3; rw [hk] at a; cases a))]; exact b
theorem Good.fold_nil (g : Good E w I G h) {r : Nat} {T e : TypeId} {p : Option Addr} (hp : p = none ∨ p = some ⟨r, 0, none⟩) (hr : h r = some (.cells T 2 [.val (.pointer p), .val (.slice none 0 0)])) :
    Good E w I G (h.put r (.bld T e [])) ∧ Stp w I G h w I G (h.put r (.bld T e [])) := by
  obtain ⟨r1, r2, r3, us, rest, hcell, hrl, hsz⟩ := g.own r _ hr
  rw [RL_two hrl hsz] at hcell
  refine ⟨⟨fun q o hq => ?_, fun j q hj => ?_, g.imm, g.glob⟩, ⟨rfl, rfl, rfl, Nat.le_refl _, fun j _ a b => ⟨rfl, ?_, b⟩, fun _ h => h, fun _ _ _ _ h => h⟩⟩
  · by_cases e1 : q = r
    · subst e1
      rw [Heap.put_same] at hq
      injection hq with hq; subst hq
      exact ⟨r1, r2, r3, .inl ⟨rfl, p, hp, hcell⟩⟩
    · rw [Heap.put_ne _ _ e1] at hq
      exact g.own q o hq
  · obtain ⟨h1, h2, h3, T', e', bs', h4⟩ := g.hid j q hj
    have hqr : q ≠ r := fun e3 => (by subst e3; rw [hr] at h4; cases h4)
    exact ⟨h1, h2, by rw [Heap.put_none]; exact ⟨fun e3 => (by subst e3; rw [hr] at h3; cases h3), h3⟩, T', e', bs', by rw [Heap.put_ne _ _ hqr]; exact h4⟩
  · rw [Heap.put_none]
    exact ⟨fun e3 => (by subst e3; rw [hr] at a; cases a), a⟩

/-! The same over code -/
theorem SW.turn {c : Code} {Q : Exit → AS → Prop} {a : AS} {h' : Heap} (hg : ∀ w I G, Good E w I G a.h → ∃ G', Good E w I G' h' ∧ Stp w I G a.h w I G' h') (k : SW E c Q { a with h := h' }) : SW E c Q a := by
  intro w I G act g r
  obtain ⟨G', g', s⟩ := hg w I G g
  exact wp_mono (k w I G' act g' ⟨r.defers, r.size, r.slot⟩) fun _ _ _ p => p.trans s
theorem SW.unfold {c : Code} {Q : Exit → AS → Prop} {a : AS} {r : Nat} {T e : TypeId} {bs : List UInt8} (hr : a.h r = some (.bld T e bs))
    (k1 : bs = [] → ∀ p, (p = none ∨ p = some ⟨r, 0, none⟩) → SW E c Q { a with h := a.h.put r (.cells T 2 [.val (.pointer p), .val (.slice none 0 0)]) })
    (k2 : ∀ k cap, a.h k = none → k ≠ r → bs.length ≤ cap → cap ≤ maxLen → 0 < cap → SW E c Q { a with h := (a.h.put r (.cells T 2 [.val (.pointer (some ⟨r, 0, none⟩)), .val (.slice (some ⟨k, 0, none⟩) bs.length cap)])).put k (.cells e cap (bytePVs bs)) }) : SW E c Q a := by
  intro w I G act g r'
  rcases g.unfold hr with ⟨hb, p, G', hp, g', s⟩ | ⟨k, cap, G', h1, h2, h3, h4, h5, g', s⟩
  · exact wp_mono (k1 hb p hp w I G' act g' ⟨r'.defers, r'.size, r'.slot⟩) fun _ _ _ p => p.trans s
  · exact wp_mono (k2 k cap h1 h2 h3 h4 h5 w I G' act g' ⟨r'.defers, r'.size, r'.slot⟩) fun _ _ _ p => p.trans s
theorem SW.fold_row {c : Code} {Q : Exit → AS → Prop} {a : AS} {r k cap : Nat} {T e : TypeId} {bs : List UInt8} (hr : a.h r = some (.cells T 2 [.val (.pointer (some ⟨r, 0, none⟩)), .val (.slice (some ⟨k, 0, none⟩) bs.length cap)])) (hk : a.h k = some (.cells e cap (bytePVs bs))) (hkr : k ≠ r) (hcm : cap ≤ maxLen) (hc0 : 0 < cap)
    (kk : SW E c Q { a with h := (a.h.del k).put r (.bld T e bs) }) : SW E c Q a :=
  SW.turn (fun _ _ _ g => g.fold_row hr hk hkr hcm hc0) kk
theorem SW.fold_nil {c : Code} {Q : Exit → AS → Prop} {a : AS} {r : Nat} {T e : TypeId} {p : Option Addr} (hp : p = none ∨ p = some ⟨r, 0, none⟩) (hr : a.h r = some (.cells T 2 [.val (.pointer p), .val (.slice none 0 0)]))
    (kk : SW E c Q { a with h := a.h.put r (.bld T e []) }) : SW E c Q a :=
  SW.turn (fun _ _ G g => ⟨G, g.fold_nil hp hr⟩) kk

theorem Own.reput {h0 H : Heap} {r : Nat} {X Y : AObj} {e : TypeId} {sz : Nat} {xs : List (List PV)} {v : PV} (o : Own (h0.put r X) e sz xs v H) : Own (h0.put r Y) e sz xs v (H.put r Y) := by
  rcases o with ⟨h1, h2, h3⟩ | ⟨k, cap, h1, h2, h3, h4, h5, h6⟩
  · exact .inl ⟨h1, h2, by rw [h3, Heap.put_put]⟩
  · rw [Heap.put_none] at h4
    refine .inr ⟨k, cap, h1, h2, h3, by rw [Heap.put_none]; exact h4, ?_, h6⟩
    rw [h5, Heap.put_comm _ _ _ h4.1, Heap.put_put]
theorem Own.at {h0 H : Heap} {r : Nat} {X : AObj} {e : TypeId} {sz : Nat} {xs : List (List PV)} {v : PV} (o : Own (h0.put r X) e sz xs v H) : H r = some X := by
  rcases o with ⟨h1, h2, h3⟩ | ⟨k, cap, h1, h2, h3, h4, h5, h6⟩
  · rw [h3]; exact Heap.put_same _ _ _
  · rw [Heap.put_none] at h4
    rw [h5, Heap.put_ne _ _ (fun e => h4.1 e.symm)]
    exact Heap.put_same _ _ _
def elB (bs : List UInt8) : List (List PV) := bs.map fun b => [.int .u8 b.toNat]
theorem elB_flat (bs : List UInt8) : (elB bs).flatten = bytePVs bs := by
  induction bs with
  | nil => rfl
  | cons b bs ih => simp [elB, bytePVs] at ih ⊢; exact ih
theorem elB_append (a b : List UInt8) : elB a ++ elB b = elB (a ++ b) := by simp [elB]
theorem elB_len (a : List UInt8) : (elB a).length = a.length := by simp [elB]
theorem SW.open_bld {c : Code} {Q : Exit → AS → Prop} {a : AS} {r : Nat} {T e : TypeId} {bs : List UInt8} (hr : a.h r = some (.bld T e bs))
    (k : ∀ p u H, (p = none ∨ p = some ⟨r, 0, none⟩) → Own (a.h.put r (.cells T 2 [.val (.pointer p), .val u])) e 1 (elB bs) (.val u) H → (capOf (.val u) = 0 → u = .slice none 0 0) → SW E c Q { a with h := H }) : SW E c Q a := by
  refine SW.unfold hr (fun hb p hp => ?_) (fun j cap h1 h2 h3 h4 h5 => ?_)
  · subst hb
    exact k p (.slice none 0 0) _ hp (.inl ⟨rfl, rfl, rfl⟩) (fun _ => rfl)
  · refine k (some ⟨r, 0, none⟩) (.slice (some ⟨j, 0, none⟩) bs.length cap) _ (.inr rfl) (.inr ⟨j, cap, by rw [elB_len], by rw [elB_len]; exact h3, h4, by rw [Heap.put_none]; exact ⟨h2, h1⟩, by rw [elB_flat, Nat.mul_one], fun x hx => ?_⟩) (fun hc => by simp only [capOf] at hc; omega)
    obtain ⟨b, _, rfl⟩ := List.mem_map.1 hx
    rfl
theorem Heap.get_put (h : Heap) (r : Nat) (o : AObj) (k : Nat) : (h.put r o) k = if k = r then some o else h k := rfl
theorem cast0 : ((0 : Nat) : Int) = 0 := rfl
theorem cast1 : ((1 : Nat) : Int) = 1 := rfl
theorem beq_tf : (true == false) = false := rfl
theorem beq_ft : (false == true) = false := rfl
theorem some_none {p : Prop} [Decidable p] {o : AObj} {x : Option AObj} : (if p then some o else x) = none ↔ ¬ p ∧ x = none := by
  by_cases h : p <;> simp [h]
theorem HTo.del (h : Heap) (r : Nat) : HTo E h (h.del r) := HSub.to fun k => by
  by_cases e : k = r
  · subst e; exact .inl (Heap.del_same _ _)
  · exact .inr (Heap.del_ne _ e)
theorem HTo.put2 {h : Heap} {r q : Nat} (o o' : AObj) (hr : h r = none) (hq : h q = none) : HTo E ((h.put r o).put q o') h := HSub.to (((HSub.refl h).put hr o).put hq o')
theorem HTo.put3 {h : Heap} {r q s : Nat} (o o' o2 : AObj) (hr : h r = none) (hq : h q = none) (hs : h s = none) : HTo E (((h.put r o).put q o').put s o2) h := HSub.to ((((HSub.refl h).put hr o).put hq o').put hs o2)
theorem HTo.put4 {h : Heap} {r q s u : Nat} (o o' o2 o3 : AObj) (hr : h r = none) (hq : h q = none) (hs : h s = none) (hu : h u = none) : HTo E ((((h.put r o).put q o').put s o2).put u o3) h := HSub.to (((((HSub.refl h).put hr o).put hq o').put hs o2).put hu o3)
theorem HTo_put_self {h : Heap} {r : Nat} {o : AObj} (hr : h r = some o) : HTo E h (h.put r o) := by
  have e : h.put r o = h := by
    funext k
    by_cases e : k = r
    · subst e; rw [Heap.put_same, hr]
    · rw [Heap.put_ne _ _ e]
  rw [e]; exact .refl E h
theorem HTo.close {h H : Heap} {r : Nat} {T e : TypeId} {bs : List UInt8} {v : PV} (o : Own (h.put r (.cells T 2 [.val (.pointer (some ⟨r, 0, none⟩)), v])) e 1 (elB bs) v H) (hc : capOf v = 0 → v = .val (.slice none 0 0)) : HTo E H (h.put r (.bld T e bs)) := by
  have hr := o.at
  rcases o with ⟨h1, h2, h3⟩ | ⟨j, cap, h1, h2, h3, h4, h5, h6⟩
  · subst h1
    have hb : bs = [] := by simpa [elB] using h2
    subst hb
    have e1 : H.put r (.bld T e []) = h.put r (.bld T e []) := by rw [h3, Heap.put_put]
    rw [← e1]
    exact fun w I G g => ⟨I, G, g.fold_nil (.inr rfl) hr⟩
  · subst h1
    rw [elB_len] at hr
    rw [Heap.put_none] at h4
    have hc0 : 0 < cap := by
      rcases Nat.eq_zero_or_pos cap with e0 | e0
      · have := hc (by simp only [capOf]; exact e0)
        cases this
      · exact e0
    have e1 : (H.del j).put r (.bld T e bs) = h.put r (.bld T e bs) := by
      rw [h5]
      funext q
      by_cases e1 : q = r
      · subst e1; rw [Heap.put_same, Heap.put_same]
      · rw [Heap.put_ne _ _ e1, Heap.put_ne _ _ e1]
        by_cases e2 : q = j
        · subst e2; rw [Heap.del_same]; exact h4.2.symm
        · rw [Heap.del_ne _ e2, Heap.put_ne _ _ e2, Heap.put_ne _ _ e1]
    rw [← e1]
    exact fun w I G g => ⟨I, g.fold_row hr (by rw [h5, elB_flat, Nat.mul_one]; exact Heap.put_same _ _ _) h4.1 h3 hc0⟩
/-! ### Numbers that fit -/
theorem w64 {n : Int} (h1 : -9223372036854775808 ≤ n) (h2 : n < 9223372036854775808) : IntKind.i64.wrap n = n := by rw [IntKind.wrap_i64]; omega
theorem w32 {n : Int} (h1 : -2147483648 ≤ n) (h2 : n < 2147483648) : IntKind.i32.wrap n = n := by rw [IntKind.wrap_i32]; omega
theorem w32_range (n : Int) : -2147483648 ≤ IntKind.i32.wrap n ∧ IntKind.i32.wrap n < 2147483648 := by rw [IntKind.wrap_i32]; omega
theorem wu8 {n : Int} (h1 : 0 ≤ n) (h2 : n < 256) : IntKind.u8.wrap n = n := by rw [IntKind.wrap_u8]; omega
theorem wu32 {n : Int} (h1 : 0 ≤ n) (h2 : n < 4294967296) : IntKind.u32.wrap n = n := by rw [IntKind.wrap_u32]; omega
/-! ### Loops, by what is known of the slots -/
def hasAll (a : AS) : List (Nat × PV) → Prop
  | [] => True
  | x :: l => a.get x.1 = x.2 ∧ hasAll a l
theorem hasAll_look {a : AS} : ∀ {l : List (Nat × PV)}, hasAll a l → ∀ {t : Nat} {v : PV}, look l t = some v → a.get t = v
  | [], _, _, _, h => by simp [look] at h
  | x :: l, ⟨h1, h2⟩, t, v, h => by
    simp only [look] at h
    split at h
    · rename_i e
      injection h with h
      rw [← e, h1, h]
    · exact hasAll_look h2 h
def Has (a : AS) (n : Nat) (l : List (Nat × PV)) (h : Heap) : Prop := a.n = n ∧ a.h = h ∧ hasAll a l
theorem SW.norm {c : Code} {Q : Exit → AS → Prop} {a : AS} {n : Nat} {l : List (Nat × PV)} {h : Heap} (ha : Has a n l h) (k : SW E c Q ⟨n, l, h⟩) : SW E c Q a := by
  refine SW.weaken ⟨n, l, h⟩ ha.1.symm ha.2.1.symm (fun t => ?_) k
  show (look l t).getD .any = _ ∨ (look l t).getD .any = _
  cases e : look l t with
  | none => exact .inr rfl
  | some v => exact .inl (hasAll_look ha.2.2 e).symm
theorem SW.loopK {β : Type} {c : Code} {Q : Exit → AS → Prop} {a : AS} (n : Nat) (l : β → List (Nat × PV)) (H : β → Heap) (Inv : β → Prop) (m : β → Nat) (b0 : β) (h0 : Inv b0) (start : Has a n (l b0) (H b0))
    (round : ∀ b, Inv b → SW E c (thenQ (fun a' => ∃ b', Inv b' ∧ m b' < m b ∧ Has a' n (l b') (H b')) Q) ⟨n, l b, H b⟩) : SW E (.loop c) Q a := by
  refine SW.loop (fun k a => ∃ b, Inv b ∧ m b = k ∧ Has a n (l b) (H b)) (m b0) ⟨b0, h0, rfl, start⟩ ?_
  rintro k a ⟨b, hb, rfl, ha⟩
  refine SW.norm ha ((round b hb).mono fun e a' q => ?_)
  cases e with
  | normal =>
    obtain ⟨b', h1, h2, h3⟩ := q
    exact ⟨m b', h2, b', h1, rfl, h3⟩
  | _ => exact q
theorem tdiv_nat (a b : Nat) : (a : Int).tdiv (b : Int) = ((a / b : Nat) : Int) := (Int.ofNat_tdiv a b).symm
/-! ### Bytes of numbers -/
def u8of (z : Int) : UInt8 := UInt8.ofNat (z % 256).toNat
theorem wrap_byte (z : Int) : IntKind.u8.wrap z = ((u8of z).toNat : Int) := by
  rw [IntKind.wrap_u8, u8of, UInt8.toNat_ofNat']
  omega
theorem take_next {α : Type} {l : List α} {i : Nat} (h : i < l.length) (d : α) : l.take (i + 1) = l.take i ++ [l.getD i d] := by
  rw [List.take_add_one]
  simp [List.getD_eq_getElem?_getD, h]
theorem flat_next {α β : Type} (f : α → List β) {l : List α} {i : Nat} (h : i < l.length) (d : α) : (l.take (i + 1)).flatMap f = (l.take i).flatMap f ++ f (l.getD i d) := by
  rw [take_next h d, List.flatMap_append]
  simp
theorem flat_len {α β : Type} (f : α → List β) (k : Nat) (hf : ∀ x, (f x).length = k) : ∀ l : List α, (l.flatMap f).length = k * l.length
  | [] => by simp
  | x :: l => by rw [List.flatMap_cons, List.length_append, hf, flat_len f k hf l, List.length_cons, Nat.mul_add, Nat.mul_one, Nat.add_comm]
/-! ### A row that is filled from the left -/
def fillRow (f g : Nat → PV) (n i : Nat) : List PV := (List.range n).map fun j => if j < i then f j else g j
theorem fillRow_len (f g : Nat → PV) (n i : Nat) : (fillRow f g n i).length = n := by simp [fillRow]
theorem fillRow_zero (f : Nat → PV) (v : PV) (n : Nat) : fillRow f (fun _ => v) n 0 = List.replicate n v := by
  simp [fillRow, List.map_const']
theorem fillRow_all (f g : Nat → PV) (n : Nat) : fillRow f g n n = (List.range n).map f := by
  unfold fillRow
  exact List.map_congr_left fun j hj => by rw [if_pos (List.mem_range.1 hj)]
theorem splice_one {cs : List PV} {i : Nat} (h : i < cs.length) (x : PV) : Lift.splice cs i [x] = cs.set i x := by
  unfold Lift.splice
  rw [List.set_eq_take_append_cons_drop, if_pos h]
  simp
theorem fillRow_step (f g : Nat → PV) {n i : Nat} (h : i < n) : (fillRow f g n i).set i (f i) = fillRow f g n (i + 1) := by
  apply List.ext_getElem?
  intro j
  rw [List.getElem?_set]
  simp only [fillRow_len]
  by_cases e : i = j
  · subst e
    rw [if_pos rfl, if_pos h]
    simp [fillRow, h]
  · rw [if_neg e]
    simp only [fillRow, List.getElem?_map]
    cases e2 : (List.range n)[j]? with
    | none => rfl
    | some k =>
      have : k = j := by
        rw [List.getElem?_range] at e2
        · injection e2 with e2; exact e2.symm
        · rcases Nat.lt_or_ge j n with hj | hj
          · exact hj
          · rw [List.getElem?_eq_none (by simpa using hj)] at e2; cases e2
      subst this
      simp only [Option.map_some]
      by_cases e3 : k < i
      · rw [if_pos e3, if_pos (by omega)]
      · rw [if_neg e3, if_neg (by omega)]
theorem fillRow_store (f g : Nat → PV) {n i : Nat} (h : i < n) : (fillRow f g n i).take i ++ [f i] ++ (fillRow f g n i).drop (i + 1) = fillRow f g n (i + 1) := by
  rw [← fillRow_step f g h, ← splice_one (by rw [fillRow_len]; exact h)]
  rfl
theorem flatten_single (l : List PV) : (l.map fun x => [x]).flatten = l := by
  induction l with
  | nil => rfl
  | cons x l ih => simp only [List.map_cons, List.flatten_cons, ih]; rfl
theorem replicate_single (n : Nat) (v : PV) : (List.replicate n [v]).flatten = List.replicate n v := by
  induction n with
  | zero => rfl
  | succ n ih => simp only [List.replicate_succ, List.flatten_cons, ih]; rfl
theorem w64_byte (b : UInt8) : IntKind.i64.wrap (b.toNat : Int) = b.toNat := by
  have := b.toNat_lt
  rw [IntKind.wrap_i64]; omega
theorem w32_byte (b : UInt8) : IntKind.i32.wrap (b.toNat : Int) = b.toNat := by
  have := b.toNat_lt
  rw [IntKind.wrap_i32]; omega
theorem byte_lt_T (b : UInt8) : ((b.toNat : Nat) : Int) < 256 ↔ True := by
  have := b.toNat_lt
  simp only [iff_true]; omega
end
end Go.Proofs.Ythlibdhjcjangaa.Lift
