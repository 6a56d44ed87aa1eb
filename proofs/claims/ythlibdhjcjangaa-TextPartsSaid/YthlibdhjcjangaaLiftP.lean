/- Regions and code in bulk. -/
import Derived.Test.YthlibdhjcjangaaLiftO
set_option linter.unusedSimpArgs false
set_option linter.unusedVariables false
namespace Go.Proofs.Ythlibdhjcjangaa.Lift
open Go Go.RowKit

section
variable {E : Env} {S : Specs E} {w w1 w' : World} {I I1 I' : Nat → Prop} {G G1 G' : Nat → Option Nat} {h : Heap}

theorem RS.same {a b : AS} {act : Act} (r : RS w I a act) (hn : b.n = a.n) (hg : ∀ t, b.get t = a.get t) : RS w I b act := r.weaken hn fun t => .inl (hg t)
theorem get_put_self {a : AS} {d : Nat} {v : PV} (hd : a.get d = v) (t : Nat) : (a.put (some d) v).get t = a.get t := by
  rw [AS.get_put]
  split
  · rename_i e; subst e; exact hd.symm
  · rfl
theorem SWO.put_same {ops : Array Oper} {rest : List Oper} {Q : Exit → AS → Prop} {a : AS} (d : Nat) {v : PV} (hd : a.get d = v) (k : SWO E ops rest Q (a.put (some d) v)) : SWO E ops rest Q a :=
  fun w I G act g r => k w I G act g (r.same rfl (get_put_self hd))
theorem SW.put_same {c : Code} {Q : Exit → AS → Prop} {a : AS} (d : Nat) {v : PV} (hd : a.get d = v) (k : SW E c Q (a.put (some d) v)) : SW E c Q a :=
  fun w I G act g r => k w I G act g (r.same rfl (get_put_self hd))
/-- A truth value that steers guards: two cases. -/
theorem SWO.split {ops : Array Oper} {rest : List Oper} {Q : Exit → AS → Prop} {a : AS} (d : Nat) {c : Bool} (hd : a.get d = .bool c) (h1 : c = true → SWO E ops rest Q (a.put (some d) (.bool true))) (h2 : c = false → SWO E ops rest Q (a.put (some d) (.bool false))) : SWO E ops rest Q a := by
  cases c
  · exact SWO.put_same d hd (h2 rfl)
  · exact SWO.put_same d hd (h1 rfl)
theorem SW.split {x : Code} {Q : Exit → AS → Prop} {a : AS} (d : Nat) {c : Bool} (hd : a.get d = .bool c) (h1 : c = true → SW E x Q (a.put (some d) (.bool true))) (h2 : c = false → SW E x Q (a.put (some d) (.bool false))) : SW E x Q a := by
  cases c
  · exact SW.put_same d hd (h2 rfl)
  · exact SW.put_same d hd (h1 rfl)

theorem SWO.yldc {ops : Array Oper} {o : Oper} {rest : List Oper} {Q : Exit → AS → Prop} {a : AS} {v : PV} (hy : YldC E a o.op v) (hg : wantedA ops a o = some true) (hd : okDst a.n o.dst = true)
    (k : SWO E ops rest Q (a.put o.dst v)) : SWO E ops (o :: rest) Q a := by
  intro w I G act g r
  unfold wpList
  rw [if_pos (r.wanted hg)]
  refine .inl (hy w I G act o rfl g r _ _ ?_)
  intro u w' I' G' g' s hv
  have r1 := (r.keeps (s.keeps g)).put hd hv
  exact SWO.on (a := a.put o.dst v) (h := a.h) k (by rw [put_h]; exact s) (by rw [put_h]; exact g') r1

/-! ### Operations that turn what is owned, in one way -/
def YldH (E : Env) (a : AS) (op : Op) (v : PV) (h' : Heap) : Prop :=
  ∀ w I G act (o : Oper), o.op = op → Good E w I G a.h → RS w I a act → ∃ n u w' I' G', (execOp act.eval o).run E.P w = .ok n w' ∧ (n = .value u ∨ n = .skip ∧ u = undef) ∧ Good E w' I' G' h' ∧ Stp w I G a.h w' I' G' h' ∧ R w' I' v u
theorem SWO.yldh {ops : Array Oper} {o : Oper} {rest : List Oper} {Q : Exit → AS → Prop} {a : AS} {v : PV} {h' : Heap} (hy : YldH E a o.op v h') (hg : wantedA ops a o = some true) (hd : okDst a.n o.dst = true)
    (k : SWO E ops rest Q { a.put o.dst v with h := h' }) : SWO E ops (o :: rest) Q a :=
  SWO.to hg hd fun w I G act g r => by
    obtain ⟨n, u, w', I', G', h1, h2, h3, h4, h5⟩ := hy w I G act o rfl g r
    exact ⟨n, u, w', I', G', h', v, h1, h2, h3, h4, h5, k⟩
theorem YldH.store {a : AS} (t : TypeId) (p x : Operand) {i : TyI} (ht : E.ty t = some i) {r0 o0 : Nat} {t' : TypeId} {size : Nat} {cs : List PV} (hp : a.eval E p = .val (.pointer (some ⟨r0, o0, none⟩))) (hr0 : a.h r0 = some (.cells t' size cs))
    (h1 : known1 (a.eval E x) = true) (hsz : (a.eval E x).cells.length = i.size) (hfit : o0 + i.size ≤ cs.length) : YldH E a (.store t p x) .any (a.h.put r0 (.cells t' size (Lift.splice cs o0 (a.eval E x).cells))) := by
  intro w I G act o hop g r
  have hx := R_cells_run (r.eval g x) h1
  have hp' := r.eval g p
  rw [hp] at hp'
  have hp' := R_val hp'
  obtain ⟨_, _, _, us, rs, hh, hr, hl⟩ := g.own _ _ hr0
  have hxl := hx.length
  have hrl := hr.length
  have hst := run_storeCells_at E.P r0 o0 t' (act.eval x).cells.toList 0 (us ++ rs).toArray w hh (by simp; rw [Array.length_toList] at hxl; omega) hx.one
  simp only [Nat.add_zero] at hst
  let w2 := w.setRow r0 (us.take o0 ++ (act.eval x).cells.toList ++ us.drop (o0 + (act.eval x).cells.toList.length) ++ rs).toArray
  have hw2 : (storeVar t ⟨r0, o0, none⟩ (act.eval x)).run E.P w = .ok () w2 := by
    have e : (act.eval x).cells.size = i.size := by rw [← hsz, ← hxl, Array.length_toList]
    simp only [storeVar, Sem.run_bind, ty_sizeOf ht, Result.andThen_ok, e, ne_eq, not_true_eq_false, if_false]
    rw [hst]
    congr 2
    have h1 : o0 ≤ us.length := by omega
    have h2 : o0 + (act.eval x).cells.toList.length ≤ us.length := by omega
    rw [List.take_append_of_le_length h1, List.drop_append_of_le_length h2]
    simp
  have hob : RObj w2 I G r0 (.cells t' size (Lift.splice cs o0 (a.eval E x).cells)) := by
    have hk2 : Keeps w I w2 I := fun k hk => ⟨hk, setRow_other w r0 k _ (fun e => (g.own _ _ hr0).2.1 (e ▸ hk))⟩
    refine ⟨_, rs, setRow_heap w r0 _ _ t' (0, 0) hh, RL.keeps hk2 _ _ (hr.splice hx o0), ?_⟩
    simp only [List.length_append, List.length_take, List.length_drop]
    omega
  obtain ⟨g', s⟩ := g.write hr0 rfl (by simp [w2]) (fun k hk => setRow_other w r0 k _ hk) rfl rfl rfl hob
  exact ⟨.skip, undef, w2, I, G, by simp only [execOp, hop, Sem.run_bind, Instr.storeAt, hp', Instr.sureAddr, Sem.run_pure, Result.andThen_ok, hw2], .inr ⟨rfl, rfl⟩, g', s, trivial⟩
/-- A block of one's own is lost. -/
theorem Good.ruin (g : Good E w I G h) {r : Nat} {o : AObj} (hr : h r = some o) (hp : o.plain = true) (hsz : w'.heap.size = w.heap.size) (hb : ∀ k, k ≠ r → w'.heap[k]? = w.heap[k]?) (ho : w'.os = w.os) (ht : w'.tape = w.tape) (hout : w'.output = w.output) :
    Good E w' I G (h.del r) ∧ Stp w I G h w' I G (h.del r) := by
  obtain ⟨r1, r2, r3, _⟩ := g.own r o hr
  have hnh := g.noHid hr hp
  have hk : Keeps w I w' I := fun k hk => ⟨hk, hb k (fun e => r2 (e ▸ hk))⟩
  have hdn : ∀ k, h k = none → (h.del r) k = none := fun k e => by
    by_cases e2 : k = r
    · subst e2; exact Heap.del_same _ _
    · rw [Heap.del_ne _ e2]; exact e
  refine ⟨⟨fun q o' hq => ?_, fun k q hk' => ?_, fun k hk' => ?_, fun gl cs hgl => R1.keeps hk _ _ (g.glob gl cs hgl)⟩, ⟨ho, ht, hout, by omega, fun k hk' a b => ⟨hb k (fun e => by subst e; rw [hr] at a; cases a), hdn k a, b⟩, fun k hk' => hk', fun k hk' a b hi => hi⟩⟩
  · by_cases e : q = r
    · subst e; rw [Heap.del_same] at hq; cases hq
    · rw [Heap.del_ne _ e] at hq
      obtain ⟨h1, h2, h3, h4⟩ := g.own q o' hq
      exact ⟨by omega, h2, h3, h4.keeps hk (hb q e) (fun k hk' => ⟨hk', hb k (fun e' => by subst e'; have := (g.hid k q hk').2.2.1; rw [hr] at this; cases this)⟩)⟩
  · obtain ⟨h1, h2, h3, T, e', bs, h4⟩ := g.hid k q hk'
    have hqr : q ≠ r := fun e => hnh k (by rw [hk', e])
    exact ⟨by omega, h2, hdn k h3, T, e', bs, (Heap.del_ne h hqr).trans h4⟩
  · have := g.imm k hk'; omega
/-- Bytes out of cells. -/
def unBs : List PV → Option (List UInt8)
  | [] => some []
  | .int .u8 n :: xs => match unBs xs with
    | some l => if 0 ≤ n ∧ n < 256 then some (UInt8.ofNat n.toNat :: l) else none
    | none => none
  | _ => none
theorem unBs_spec : ∀ {xs : List PV} {l : List UInt8}, unBs xs = some l → xs = l.map fun b => PV.int .u8 b.toNat
  | [], l, h => by simp only [unBs, Option.some.injEq] at h; subst h; rfl
  | x :: xs, l, h => by
    unfold unBs at h
    split at h
    · rename_i he; cases he
    · rename_i n xs' he
      injection he with he1 he2
      subst he1; subst he2
      split at h
      · rename_i l' hl
        split at h
        · rename_i hn
          injection h with h
          subst h
          rw [unBs_spec hl]
          simp only [List.map_cons]
          congr 2
          have : (UInt8.ofNat n.toNat).toNat = n.toNat := by
            rw [UInt8.toNat_ofNat']; omega
          rw [this]; omega
        · cases h
      · cases h
    · cases h
theorem unBs_map (l : List UInt8) : unBs (l.map fun b => PV.int .u8 b.toNat) = some l := by
  induction l with
  | nil => rfl
  | cons b l ih =>
    simp only [List.map_cons, unBs, ih]
    have := b.toNat_lt
    rw [if_pos ⟨by omega, by omega⟩]
    simp
theorem RL_byteVals {l : List UInt8} {us : List Value} (h : RL w I (l.map fun b => PV.int .u8 b.toNat) us) : us = byteVals l := by
  induction l generalizing us with
  | nil => simp only [List.map_nil, RL] at h; rw [h]; rfl
  | cons b l ih =>
    simp only [List.map_cons, RL, R1] at h
    obtain ⟨u, us', rfl, rfl, h⟩ := h
    rw [ih h]; rfl
/-- unsafe.String over a row of one's own: the bytes; the row is lost (the model freezes it). -/
theorem YldH.unsafeString {a : AS} (x y : Operand) (t ti : TypeId) {i ie : TyI} {e : TypeId} (ht : E.ty t = some i) (hk : i.k = .ptr e) (he : E.ty e = some ie) (hs1 : ie.size = 1) {r0 size m : Nat} {cs : List PV} {l : List UInt8} (hx : a.eval E x = .val (.pointer (some ⟨r0, 0, none⟩))) (hy : a.eval E y = .int .i64 m)
    (hr0 : a.h r0 = some (.cells e size cs)) (hm : 0 < m) (hl : unBs (cs.take m) = some l) (hlen : l.length = m) (hmax : m ≤ 9223372036854775807) : YldH E a (.call { callee := .builtin .unsafeString, args := #[x, y], argTypes := #[t, ti] }) (.str l) (a.h.del r0) := by
  intro w I G act o hop g r
  have hx' := r.eval g x
  rw [hx] at hx'
  have hx' := R_val hx'
  have hy' := r.eval g y
  rw [hy] at hy'
  have hy' := R_int hy'
  obtain ⟨h1, h2, h3, us, rs, hh, hr, hsz⟩ := g.own _ _ hr0
  have hus := hr.take m
  rw [unBs_spec hl] at hus
  have hus := RL_byteVals hus
  obtain ⟨inf, z, hi, hisz, _⟩ := ty_info he
  have hd := ty_under ht
  rw [hk] at hd
  have hcell : ∀ j x, l[j]? = some x → w.cell? ((⟨r0, 0, none⟩ : Addr).add j) = some (.int .u8 x.toNat) := by
    intro j x hj
    have e0 : (⟨r0, 0, none⟩ : Addr).add j = ⟨r0, j, none⟩ := by unfold Addr.add; split <;> simp_all
    rw [e0]
    refine cell_of_cells hh ?_
    have e1 : (us.take m)[j]? = some (.int .u8 x.toNat) := by rw [hus]; unfold byteVals; rw [List.getElem?_map, hj]; rfl
    rw [List.getElem?_take] at e1
    split at e1
    · exact e1
    · cases e1
  have hul : m ≤ us.length := by
    have := congrArg List.length hus
    simp only [List.length_take, byteVals, List.length_map, hlen] at this
    omega
  have hrun := Lib.run_unsafeString_row (P := E.P) w t ti o.type e hd (by simp [Program.cellsOf, hi, hisz, hs1]) r0 (us ++ rs).length (by simp [World.shape?, hh]) l (by intro e; subst e; simp at hlen; omega) (by rw [hlen, List.length_append]; omega) (by omega) hcell
  rw [hlen] at hrun
  have hfz : ∀ k, k ≠ r0 → (w.freeze ⟨r0, 0, none⟩ m).heap[k]? = w.heap[k]? := fun k hk => by
    unfold World.freeze
    split
    · rfl
    · simp only [Array.getElem?_modify]
      rw [if_neg (fun e => hk e.symm)]
  have hfs : (w.freeze ⟨r0, 0, none⟩ m).heap.size = w.heap.size := by
    unfold World.freeze
    split
    · rfl
    · simp
  obtain ⟨g', s⟩ := g.ruin (w' := w.freeze ⟨r0, 0, none⟩ m) hr0 rfl hfs hfz (by unfold World.freeze; split <;> rfl) (by unfold World.freeze; split <;> rfl) (by unfold World.freeze; split <;> rfl)
  refine ⟨_, .string ⟨l.toArray⟩, _, I, G, ?_, .inl rfl, g', s, rfl⟩
  simp only [execOp, hop, resolve, invoke, builtin, Sem.run_bind, Sem.run_pure, Result.andThen_ok, hx', hy', Array.map, List.map_toArray, List.map_cons, List.map_nil]
  simp [hx', hy', hrun]
theorem YldH.unsafeString_nil {a : AS} (x y : Operand) (t ti : TypeId) {p : Option Addr} (hx : a.eval E x = .val (.pointer p)) (hy : a.eval E y = .int .i64 0) : YldH E a (.call { callee := .builtin .unsafeString, args := #[x, y], argTypes := #[t, ti] }) (.str []) a.h := by
  intro w I G act o hop g r
  have hx' := r.eval g x
  rw [hx] at hx'
  have hx' := R_val hx'
  have hy' := r.eval g y
  rw [hy] at hy'
  have hy' := R_int hy'
  have hrun := Lib.run_unsafeString_none (P := E.P) w t ti o.type p
  refine ⟨_, .string ⟨#[]⟩, w, I, G, ?_, .inl rfl, g, .refl .., rfl⟩
  simp [execOp, hop, resolve, invoke, builtin, hx', hy', hrun]
  rfl
/-- Operations of this kind. -/
def hxOp : Op → Bool
  | .store .. => true
  | .call c => match c.callee with
    | .builtin .unsafeString => true
    | _ => false
  | _ => false
def HBad (h : Heap) : Prop × PV × Heap := (False, .any, h)
def hxUS (E : Env) (h : Heap) (c : Call) (t : TypeId) (x y : PV) : Prop × PV × Heap :=
  match x with
  | .val (.pointer p) => match y with
    | .int .i64 n => match n with
      | .ofNat 0 => (True, .str [], h)
      | .ofNat (m + 1) => match p with
        | some ⟨r0, 0, none⟩ => match h r0 with
          | some (.cells e _ cs) => match E.ty t with
            | some i => match E.ty e with
              | some ie => match unBs (cs.take (m + 1)) with
                | some l => (i.k = .ptr e ∧ ie.size = 1 ∧ l.length = m + 1 ∧ m + 1 ≤ 9223372036854775807, .str l, h.del r0)
                | none => HBad h
              | none => HBad h
            | none => HBad h
          | _ => HBad h
        | _ => HBad h
      | _ => HBad h
    | _ => HBad h
  | _ => HBad h
def hx (E : Env) (ρ : Operand → PV) (h : Heap) : Op → Prop × PV × Heap
  | .store t p x => match E.ty t with
    | some i => match ρ p with
      | .val (.pointer (some ⟨r0, o0, none⟩)) => match h r0 with
        | some (.cells t' size cs) => (known1 (ρ x) = true ∧ (ρ x).cells.length = i.size ∧ o0 + i.size ≤ cs.length, .any, h.put r0 (.cells t' size (Lift.splice cs o0 (ρ x).cells)))
        | _ => HBad h
      | _ => HBad h
    | none => HBad h
  | .call c => match c.args.toList with
    | [x, y] => match c.argTypes.toList with
      | [t, ti] => ((hxUS E h c t (ρ x) (ρ y)).1 ∧ c = { callee := .builtin .unsafeString, args := #[x, y], argTypes := #[t, ti] }, (hxUS E h c t (ρ x) (ρ y)).2)
      | _ => HBad h
    | _ => HBad h
  | _ => HBad h
theorem hx_ok {a : AS} {op : Op} (hp : (hx E (a.eval E) a.h op).1) : YldH E a op (hx E (a.eval E) a.h op).2.1 (hx E (a.eval E) a.h op).2.2 := by
  cases op <;> try exact hp.elim
  case store t p x =>
    simp only [hx] at hp ⊢
    cases ht : E.ty t with
    | none => rw [ht] at hp; exact hp.elim
    | some i =>
      rw [ht] at hp
      dsimp only at hp ⊢
      split at hp
      · rename_i r0 o0 hpp
        try rw [hpp]
        try dsimp only at hp ⊢
        split at hp
        · rename_i t' size cs hr
          try rw [hr]
          exact YldH.store t p x ht hpp hr hp.1 hp.2.1 hp.2.2
        · exact hp.elim
      · exact hp.elim
  case call c =>
    simp only [hx] at hp ⊢
    split at hp
    · rename_i x y hxy
      split at hp
      · rename_i t ti htt
        obtain ⟨hp, hc⟩ := hp
        rw [hc]
        unfold hxUS at hp ⊢
        split at hp
        · rename_i p hpx
          split at hp
          · rename_i n hny
            split at hp
            · exact YldH.unsafeString_nil x y t ti hpx hny
            · rename_i m
              split at hp
              · rename_i r0
                split at hp
                · rename_i e size cs hr
                  try dsimp only at hp ⊢
                  cases ht : E.ty t with
                  | none => rw [ht] at hp; exact hp.elim
                  | some i =>
                    cases he : E.ty e with
                    | none => rw [ht, he] at hp; exact hp.elim
                    | some ie =>
                      rw [ht, he] at hp
                      try dsimp only at hp ⊢
                      cases hl : unBs (cs.take (m + 1)) with
                      | none => rw [hl] at hp; exact hp.elim
                      | some l =>
                        rw [hl] at hp
                        obtain ⟨q1, q2, q3, q4⟩ := hp
                        exact YldH.unsafeString x y t ti ht q1 he q2 hpx hny hr (Nat.succ_pos m) hl q3 q4
                · exact hp.elim
              · exact hp.elim
            · exact hp.elim
          · exact hp.elim
        · exact hp.elim
      · exact hp.elim
    · exact hp.elim

/-- Operations that only a rule of their own walks through. -/
def stops (S : Specs E) : Op → Bool
  | .call c => match c.callee with
    | .builtin .len => false
    | .builtin .cap => false
    | .builtin .min => false
    | .builtin .max => false
    | .builtin .unsafeSliceData => false
    | .builtin .unsafeString => false
    | .value (.func f) => !S.has f
    | _ => true
  | .makeSlice .. | .insert .. | .ready _ | .waits _ | .sliceToArrayPointer .. | .makeMap .. | .makeChan .. | .lookup .. | .mapUpdate .. | .mapEntry .. | .entryStore .. | .range .. | .next .. | .entry _ | .typeAssert .. | .go _ | .defer _ | .panic _ | .send .. | .recv .. | .select .. => true
  | _ => false

def zeroOf (E : Env) (t : TypeId) : List PV :=
  match E.ty t with
  | some i => i.zero.map ofVal
  | none => []
def okAlloc (E : Env) (t : TypeId) : Bool :=
  match E.ty t with
  | some i => okZero i
  | none => false
/-- What becomes of a state by an operation that is carried out. -/
def step1 (E : Env) (S : Specs E) (o : Oper) (a : AS) (K : AS → Prop) : Prop :=
  match o.op with
  | .alloc t => okAlloc E t = true ∧ ∀ r, a.h r = none → K { a.put o.dst (.val (.pointer (some ⟨r, 0, none⟩))) with h := a.h.put r (.cells t (zeroOf E t).length (zeroOf E t)) }
  | .box t x => known1 (a.eval E x) = true ∧ ∀ r, a.h r = none → K { a.put o.dst (.val (.pointer (some ⟨r, 0, none⟩))) with h := a.h.put r (.cells t (a.eval E x).cells.length (a.eval E x).cells) }
  | op => if hxOp op = true then (hx E (a.eval E) a.h op).1 ∧ K { a.put o.dst (hx E (a.eval E) a.h op).2.1 with h := (hx E (a.eval E) a.h op).2.2 }
    else (px E S (a.eval E) a.h op).1 ∧ K (a.put o.dst (px E S (a.eval E) a.h op).2)
/-- A region's operations, as many as are wanted or can be taken in bulk. -/
def wpS (E : Env) (S : Specs E) (ops : Array Oper) : Nat → List Oper → (Exit → AS → Prop) → AS → Prop
  | _, [], Q, a => Q .normal a
  | 0, o :: rest, Q, a => SWO E ops (o :: rest) Q a
  | n + 1, o :: rest, Q, a => if stops S o.op = true then SWO E ops (o :: rest) Q a
    else if wantedA ops a o = some true then okDst a.n o.dst = true ∧ step1 E S o a (wpS E S ops n rest Q)
    else if wantedA ops a o = some false then okDst a.n o.dst = true ∧ wpS E S ops n rest Q (a.put o.dst (.tuple []))
    else False

theorem okAlloc_spec {t : TypeId} (h : okAlloc E t = true) : ∃ i, E.ty t = some i ∧ okZero i = true ∧ zeroOf E t = i.zero.map ofVal := by
  unfold okAlloc at h
  unfold zeroOf
  cases ht : E.ty t with
  | none => rw [ht] at h; cases h
  | some i => rw [ht] at h; exact ⟨i, rfl, h, rfl⟩
theorem SWO.step1 {ops : Array Oper} {o : Oper} {rest : List Oper} {Q : Exit → AS → Prop} {a : AS} (hg : wantedA ops a o = some true) (hd : okDst a.n o.dst = true) (hs : step1 E S o a (SWO E ops rest Q)) : SWO E ops (o :: rest) Q a := by
  unfold Lift.step1 at hs
  split at hs
  · rename_i t hop
    obtain ⟨i, ht, hz, e⟩ := okAlloc_spec hs.1
    have h2 := hs.2
    rw [e, List.length_map] at h2
    exact SWO.alloc t hop ht hz hg hd h2
  · rename_i t x hop
    exact SWO.box t x hop hs.1 hg hd hs.2
  · split at hs
    · exact SWO.yldh (hx_ok hs.1) hg hd hs.2
    · exact SWO.yldc (px_ok hs.1) hg hd hs.2
theorem step1_mono {o : Oper} {a : AS} {K K' : AS → Prop} (hk : ∀ a, K a → K' a) (hs : step1 E S o a K) : step1 E S o a K' := by
  unfold step1 at hs ⊢
  split at hs
  · exact ⟨hs.1, fun r hr => hk _ (hs.2 r hr)⟩
  · exact ⟨hs.1, fun r hr => hk _ (hs.2 r hr)⟩
  · split at hs
    · rename_i hc; rw [if_pos hc]; exact ⟨hs.1, hk _ hs.2⟩
    · rename_i hc; rw [if_neg hc]; exact ⟨hs.1, hk _ hs.2⟩
theorem SWO.run {ops : Array Oper} (S : Specs E) : ∀ (n : Nat) {rest : List Oper} {Q : Exit → AS → Prop} {a : AS}, wpS E S ops n rest Q a → SWO E ops rest Q a
  | 0, [], _, _, h => SWO.nil h
  | n + 1, [], _, _, h => SWO.nil h
  | 0, o :: rest, _, _, h => h
  | n + 1, o :: rest, Q, a, h => by
    unfold wpS at h
    split at h
    · exact h
    · split at h
      · rename_i hw; exact SWO.step1 hw h.1 (step1_mono (fun a k => SWO.run S n k) h.2)
      · split at h
        · rename_i hw; exact SWO.off hw h.1 (SWO.run S n h.2)
        · exact h.elim

def isB : PV → Bool
  | .bool _ => true
  | _ => false
def asB : PV → Bool
  | .bool b => b
  | _ => false
theorem isB_spec {v : PV} (h : isB v = true) : v = .bool (asB v) := by cases v <;> first | rfl | cases h
def tmpOf : Operand → Nat
  | .tmp t => t
  | _ => 0
/-- Code that the walk in bulk does not go through at once. -/
def mayStop (S : Specs E) : Code → Bool
  | .loop _ => true
  | .rangeFunc .. => true
  | .scope _ => true
  | .goto _ => true
  | .region _ ops draw => draw || ops.toList.any fun o => stops S o.op
  | .seq x y => mayStop S x || mayStop S y
  | .cond _ x y => mayStop S x || mayStop S y
  | .block _ c => mayStop S c
  | _ => false
/-- Code, but for loops and what has rules of its own. -/
def wpC (E : Env) (S : Specs E) : Code → (Exit → AS → Prop) → AS → Prop
  | .skip, Q, a => Q .normal a
  | .label _, Q, a => Q .normal a
  | .exit id, Q, a => Q (.exit id) a
  | .ret, Q, a => Q .ret a
  | .seq x y, Q, a => if mayStop S x = true then wpC E S x (thenQ (SW E y Q) Q) a else wpC E S x (thenQ (wpC E S y Q) Q) a
  | .block id c, Q, a => wpC E S c (inQ id Q) a
  | .cond x y z, Q, a => isB (a.get (tmpOf x)) = true ∧ x = .tmp (tmpOf x) ∧ if asB (a.get (tmpOf x)) = true then wpC E S y Q a else wpC E S z Q a
  | .region id ops draw, Q, a => if draw = true then SW E (.region id ops draw) Q a else wpS E S ops 100000 ops.toList Q a
  | c, Q, a => SW E c Q a
theorem SW.run (S : Specs E) : ∀ (c : Code) {Q : Exit → AS → Prop} {a : AS}, wpC E S c Q a → SW E c Q a
  | .skip, _, _, h => SW.skip h
  | .label _, _, _, h => SW.label h
  | .exit _, _, _, h => SW.exit h
  | .ret, _, _, h => SW.ret h
  | .seq x y, Q, a, h => by
    unfold wpC at h
    split at h
    · exact SW.seq (SW.run S x h)
    · refine SW.seq ((SW.run S x h).mono fun e a q => ?_)
      cases e <;> first | exact SW.run S y q | exact q
  | .block id c, Q, a, h => by unfold wpC at h; exact SW.block (SW.run S c h)
  | .cond x y z, Q, a, h => by
    unfold wpC at h
    obtain ⟨h1, h2, h3⟩ := h
    rw [h2]
    refine SW.cond (isB_spec h1) ?_
    by_cases hb : asB (a.get (tmpOf x)) = true
    · rw [if_pos hb] at h3 ⊢; exact SW.run S y h3
    · rw [if_neg hb] at h3 ⊢; exact SW.run S z h3
  | .region id ops draw, Q, a, h => by
    unfold wpC at h
    cases draw with
    | true => rw [if_pos rfl] at h; exact h
    | false =>
      rw [if_neg (by simp)] at h
      have := SW.region (id := id) (SWO.run S _ h)
      simpa using this
  | .loop _, _, _, h => h
  | .rangeFunc .., _, _, h => h
  | .scope _, _, _, h => h
  | .goto _, _, _, h => h
  | .refuse _, _, _, h => h
end
end Go.Proofs.Ythlibdhjcjangaa.Lift
