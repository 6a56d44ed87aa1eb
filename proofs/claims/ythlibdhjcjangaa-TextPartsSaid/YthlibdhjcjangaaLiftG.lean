/- Operations that read memory, cut, and put together. -/
import Derived.Test.YthlibdhjcjangaaLiftF
set_option linter.unusedSimpArgs false
set_option linter.unusedVariables false
namespace Go.Proofs.Ythlibdhjcjangaa.Lift
open Go Go.RowKit

section
variable {E : Env} {w w1 w' : World} {I I1 I' : Nat → Prop} {G G1 G' : Nat → Option Nat} {h : Heap}

theorem R_list {sz : Nat} {xs : List (List PV)} {v : Value} (h : R w I (.list sz xs) v) : ∃ A c us, v = .slice A xs.length c ∧ xs.length ≤ c ∧ c ≤ maxLen ∧ RE w I sz xs us ∧ RowAt w I A us := by
  simpa only [R, R0, R1] using h
theorem R_elem {cs : List PV} {v : Value} (h : R w I (.elem cs) v) : ∃ ad us, v = .pointer (some ad) ∧ RL w I cs us ∧ RowAt w I (some ad) us := by
  simpa only [R, R0, R1] using h
theorem R_val {u v : Value} (h : R w I (.val u) v) : v = u := h.1
theorem R_int {k : IntKind} {n : Int} {v : Value} (h : R w I (.int k n) v) : v = .int k n := h
theorem R_bool {b : Bool} {v : Value} (h : R w I (.bool b) v) : v = .bool b := h
theorem R_str {l : List UInt8} {v : Value} (h : R w I (.str l) v) : v = .string ⟨l.toArray⟩ := h
theorem R_agg {cs : List PV} {v : Value} (h : R w I (.agg cs) v) : ∃ us, v = .agg us.toArray ∧ RL w I cs us := h

theorem ty_under {t : TypeId} {i : TyI} (h : E.ty t = some i) : i.k.desc E.P t := (E.agrees h).desc

/-! ### Lengths -/
def plen : PV → Option Nat
  | .str l => some l.length
  | .list _ xs => some xs.length
  | .val (.slice _ n _) => some n
  | _ => none
def okLen (k : TK) (v : PV) : Bool :=
  match k, v with
  | .str, .str _ => true
  | .slice _, .list .. => true
  | .slice _, .val (.slice ..) => true
  | _, _ => false
theorem Yld.len {a : AS} (x : Operand) (t : TypeId) {i : TyI} {n : Nat} (ht : E.ty t = some i) (hk : okLen i.k (a.eval E x) = true) (hn : plen (a.eval E x) = some n) :
    Yld E a (.call { callee := .builtin .len, args := #[x], argTypes := #[t] }) (.int .i64 n) := by
  intro w I G act o ho g r
  have h1 := r.eval g x
  have hd := ty_under ht
  generalize a.eval E x = p at *
  refine ⟨.int .i64 n, ?_, rfl⟩
  have key : (Builtin.len_ #[t] o.type #[act.eval x]).run E.P w = .ok (.int .i64 n) w := by
    unfold okLen at hk
    split at hk
    · rename_i l he; rw [he] at hd
      rw [R_str h1]
      simp only [plen, Option.some.injEq] at hn
      simp [Builtin.len_, run_underlying hd, goInt, size_mk, ← hn]
    · rename_i e sz xs he; rw [he] at hd
      obtain ⟨A, c, us, e1, _⟩ := R_list h1
      rw [e1]
      simp only [plen, Option.some.injEq] at hn
      simp [Builtin.len_, run_underlying hd, goInt, ← hn]
    · rename_i e A n' c he; rw [he] at hd
      rw [R_val h1]
      simp only [plen, Option.some.injEq] at hn
      simp [Builtin.len_, run_underlying hd, goInt, ← hn]
    · cases hk
  simp [execOp, ho, resolve, invoke, builtin, key]
theorem Yld.cap_val {a : AS} (x : Operand) (t : TypeId) {i : TyI} {e : TypeId} {A : Option Addr} {n c : Nat} (ht : E.ty t = some i) (hk : i.k = .slice e) (hx : a.eval E x = .val (.slice A n c)) :
    Yld E a (.call { callee := .builtin .cap, args := #[x], argTypes := #[t] }) (.int .i64 c) := by
  intro w I G act o ho g r
  have h1 := r.eval g x
  have hd := ty_under ht
  rw [hk] at hd
  rw [hx] at h1
  refine ⟨.int .i64 c, ?_, rfl⟩
  simp [execOp, ho, resolve, invoke, builtin, Builtin.cap_, R_val h1, run_underlying hd, goInt]

/-! ### Parts of structs and tuples -/
theorem run_part_known {t : TypeId} {i : TyI} (ht : E.ty t = some i) (hs : i.k.isAgg = false → i.size = 1) {us : List Value} {off : Nat} (hl : off + i.size ≤ us.length) :
    (part t us.toArray off).run E.P w = .ok (ofCells i.k.isAgg ((us.drop off).take i.size)) w := by
  unfold part
  simp only [Sem.run_bind, ty_isAgg ht, Result.andThen_ok]
  cases hk : i.k.isAgg with
  | true =>
    simp only [if_true, Sem.run_bind, ty_sizeOf ht, Result.andThen_ok, ofCells]
    simp [Sem.run_pure, List.take_drop]
  | false =>
    have h1 := hs hk
    simp only [Bool.false_eq_true, if_false, List.getElem?_toArray]
    rw [List.getElem?_eq_getElem (by omega)]
    simp only [Sem.run_pure, ofCells, h1]
    simp [List.getD, List.getElem?_take, List.getElem?_drop, List.getElem?_eq_getElem (show off < us.length by omega)]
def fieldIn (E : Env) (k : TK) (f : Nat) : Option (Nat × TyI) :=
  match k with
  | .struct fs => match fs[f]? with
    | some (off, t) => (E.ty t).map fun i => (off, i)
    | none => none
  | _ => none
def fieldOf (E : Env) (s : TypeId) (f : Nat) : Option (Nat × TyI) :=
  match E.ty s with
  | some i => fieldIn E i.k f
  | none => none
theorem fieldOf_spec {s : TypeId} {f off : Nat} {i : TyI} (h : fieldOf E s f = some (off, i)) : ∃ fields fl, E.P.underlying s = some (.struct fields) ∧ fields[f]? = some fl ∧ fl.offset = off ∧ E.ty fl.type = some i := by
  unfold fieldOf at h
  cases hs : E.ty s with
  | none => rw [hs] at h; cases h
  | some j =>
    rw [hs] at h
    dsimp only at h
    have hd := ty_under hs
    unfold fieldIn at h
    split at h
    · rename_i fs he
      rw [he] at hd
      obtain ⟨fields, hd, hf⟩ := hd
      split at h
      · rename_i o t e2
        cases ht : E.ty t with
        | none => rw [ht] at h; cases h
        | some i' =>
          rw [ht] at h
          simp only [Option.map_some, Option.some.injEq, Prod.mk.injEq] at h
          obtain ⟨rfl, rfl⟩ := h
          rw [← hf, List.getElem?_map] at e2
          cases e3 : fields.toList[f]? with
          | none => rw [e3] at e2; cases e2
          | some fl =>
            rw [e3] at e2
            simp only [Option.map_some, Option.some.injEq, Prod.mk.injEq] at e2
            refine ⟨fields, fl, hd, by simpa using e3, e2.1, ?_⟩
            rw [e2.2]; exact ht
      · cases h
    · cases h
/-- One cell for what is no struct and no array. -/
def okOne (i : TyI) : Bool := i.k.isAgg || i.size == 1
theorem okOne_spec {i : TyI} (h : okOne i = true) : i.k.isAgg = false → i.size = 1 := by
  intro hk; unfold okOne at h; rw [hk] at h; simpa using h
theorem Yld.field {a : AS} (s : TypeId) (x : Operand) (f : Nat) {off : Nat} {i : TyI} {cs : List PV} (hf : fieldOf E s f = some (off, i)) (ho1 : okOne i = true) (hx : a.eval E x = .agg cs) (hl : off + i.size ≤ cs.length) :
    Yld E a (.field s x f) (valOf i.k.isAgg ((cs.drop off).take i.size)) := by
  intro w I G act o ho g r
  obtain ⟨fields, fl, hd, he, hoff, ht⟩ := fieldOf_spec hf
  have h1 := r.eval g x
  rw [hx] at h1
  obtain ⟨us, e, hr⟩ := R_agg h1
  have hl' : fl.offset + i.size ≤ us.length := by rw [hr.length, hoff]; exact hl
  refine ⟨ofCells i.k.isAgg ((us.drop off).take i.size), ?_, R_valOf ((hr.drop off).take i.size) (fun hk => ?_)⟩
  · have := run_part_known (w := w) ht (okOne_spec ho1) hl'
    rw [hoff] at this
    simp [execOp, ho, Instr.field, run_underlying hd, he, e, asAgg, hoff, this]
  · have := okOne_spec ho1 hk
    simp; omega
theorem R0s.get : ∀ {xs : List PV} {us : List Value}, R0s w I xs us → ∀ {j : Nat} {x : PV}, xs[j]? = some x → ∃ u, us[j]? = some u ∧ R0 w I x u
  | [], _, _, j, x, hx => by simp at hx
  | y :: xs, _, ⟨v, us', e, h1, h2⟩, j, x, hx => by
    subst e
    cases j with
    | zero => simp at hx; subst hx; exact ⟨v, rfl, h1⟩
    | succ j => simpa using h2.get (by simpa using hx)
theorem R_of_R0 {x : PV} {v : Value} (h : R0 w I x v) : R w I x v := by
  cases x <;> first | exact h | (exact h.elim)
theorem Yld.extract {a : AS} (x : Operand) (j : Nat) {vs : List PV} {v : PV} (hx : a.eval E x = .tuple vs) (hj : vs[j]? = some v) : Yld E a (.extract x j) v := by
  intro w I G act o ho g r
  have h1 := r.eval g x
  rw [hx] at h1
  obtain ⟨us, e, hr⟩ : ∃ us, _ := h1
  obtain ⟨u, hu, h2⟩ := hr.get hj
  exact ⟨u, by simp [execOp, ho, Instr.extract, e, hu], R_of_R0 h2⟩

/-! ### Addresses -/
theorem Yld.fieldAddr_val {a : AS} (s : TypeId) (x : Operand) (f : Nat) {off : Nat} {i : TyI} {r0 o0 : Nat} (hf : fieldOf E s f = some (off, i)) (hz : i.size ≠ 0) (hx : a.eval E x = .val (.pointer (some ⟨r0, o0, none⟩))) :
    Yld E a (.fieldAddr s x f) (.val (.pointer (some ⟨r0, o0 + off, none⟩))) := by
  intro w I G act o ho g r
  obtain ⟨fields, fl, hd, he, hoff, ht⟩ := fieldOf_spec hf
  have h1 := r.eval g x
  rw [hx] at h1
  have e : (⟨r0, o0, none⟩ : Addr).add off = ⟨r0, o0 + off, none⟩ := by unfold Addr.add; split <;> simp_all
  exact ⟨.pointer (some ⟨r0, o0 + off, none⟩), by simp [execOp, ho, Instr.fieldAt, run_underlying hd, he, R_val h1, Instr.sureAddr, fieldPlace, ty_sizeOf ht, hz, hoff, e], rfl, rfl⟩
theorem RowAt.drop {ad : Addr} {us : List Value} (h : RowAt w I (some ad) us) (n : Nat) : RowAt w I (some (ad.add n)) (us.drop n) := by
  intro hne
  have hl : n < us.length := by
    have : 0 < (us.drop n).length := List.length_pos_iff.2 hne
    simp at this; omega
  obtain ⟨ad', e, hI, hc⟩ := h (by intro hn; subst hn; simp at hl)
  injection e with e; subst e
  refine ⟨_, rfl, by rw [add_block]; exact hI, fun j u hj => ?_⟩
  rw [List.getElem?_drop] at hj
  have := hc _ u hj
  have e : (ad.add n).add j = ad.add (n + j) := by
    unfold Addr.add
    by_cases hn : n = 0 <;> by_cases hj : j = 0 <;> simp [hn, hj, Nat.add_assoc]
  rw [e]; exact this
theorem Yld.fieldAddr_elem {a : AS} (s : TypeId) (x : Operand) (f : Nat) {off : Nat} {i : TyI} {cs : List PV} (hf : fieldOf E s f = some (off, i)) (hz : i.size ≠ 0) (hx : a.eval E x = .elem cs) :
    Yld E a (.fieldAddr s x f) (.elem (cs.drop off)) := by
  intro w I G act o ho g r
  obtain ⟨fields, fl, hd, he, hoff, ht⟩ := fieldOf_spec hf
  have h1 := r.eval g x
  rw [hx] at h1
  obtain ⟨ad, us, e, hr, hat⟩ := R_elem h1
  refine ⟨.pointer (some (ad.add off)), by simp [execOp, ho, Instr.fieldAt, run_underlying hd, he, e, Instr.sureAddr, fieldPlace, ty_sizeOf ht, hz, hoff], ?_⟩
  show R1 w I _ _
  simp only [R1]
  exact ⟨_, _, rfl, hr.drop off, hat.drop off⟩
theorem run_asIntOf (k : IntKind) (n : Int) : (asIntOf (.int k n)).run E.P w = .ok (k, n) w := rfl
theorem Yld.indexAddr_list {a : AS} (t : TypeId) (x j : Operand) {i ie : TyI} {e : TypeId} {sz : Nat} {xs : List (List PV)} {k : IntKind} {n : Int} {c : List PV} (ht : E.ty t = some i) (hk : i.k = .slice e) (he : E.ty e = some ie) (hsz : ie.size = sz) (hz : sz ≠ 0)
    (hx : a.eval E x = .list sz xs) (hj : a.eval E j = .int k n) (h0 : 0 ≤ n) (hc : xs[n.toNat]? = some c) : Yld E a (.indexAddr t x j) (.elem c) := by
  intro w I G act o ho g r
  have hd := ty_under ht
  rw [hk] at hd
  have h1 := r.eval g x
  rw [hx] at h1
  have h2 := r.eval g j
  rw [hj] at h2
  have h2 := R_int h2
  obtain ⟨A, cp, us, e1, hl, hm, hr, hat⟩ := R_list h1
  have hlt : n.toNat < xs.length := (List.getElem?_eq_some_iff.1 hc).1
  obtain ⟨u1, hr1, hl1, hu1⟩ := hr.at hc
  have hne : us ≠ [] := by
    intro hn
    have := hr.length
    rw [hn, List.length_nil] at this
    rcases Nat.mul_eq_zero.1 this.symm with h | h
    · omega
    · exact hz h
  obtain ⟨ad, rfl, hI, hcell⟩ := hat hne
  have hn2 : n < (xs.length : Int) := by omega
  refine ⟨.pointer (some (ad.add (n.toNat * sz))), ?_, ?_⟩
  · simp [execOp, ho, Instr.indexAt, h2, e1, run_asIntOf, run_underlying hd, h0, hn2, ty_sizeOf he, hsz]
  · show R1 w I _ _
    simp only [R1]
    refine ⟨_, u1, rfl, hr1, fun _ => ⟨_, rfl, by rw [add_block]; exact hI, fun j' u hj' => ?_⟩⟩
    have := hcell _ u (hu1 j' u hj')
    have e : (ad.add (n.toNat * sz)).add j' = ad.add (n.toNat * sz + j') := by
      unfold Addr.add
      by_cases hn : n.toNat * sz = 0 <;> by_cases hj : j' = 0 <;> simp [hn, hj, Nat.add_assoc]
    rw [e]; exact this
theorem Yld.indexAddr_val {a : AS} (t : TypeId) (x j : Operand) {i ie : TyI} {e : TypeId} {r0 o0 len cp : Nat} {k : IntKind} {n : Int} (ht : E.ty t = some i) (hk : i.k = .slice e) (he : E.ty e = some ie)
    (hx : a.eval E x = .val (.slice (some ⟨r0, o0, none⟩) len cp)) (hj : a.eval E j = .int k n) (h0 : 0 ≤ n) (hlt : n < len) : Yld E a (.indexAddr t x j) (.val (.pointer (some ⟨r0, o0 + n.toNat * ie.size, none⟩))) := by
  intro w I G act o ho g r
  have hd := ty_under ht
  rw [hk] at hd
  have h1 := r.eval g x
  rw [hx] at h1
  have h1 := R_val h1
  have h2 := r.eval g j
  rw [hj] at h2
  have h2 := R_int h2
  have e : (⟨r0, o0, none⟩ : Addr).add (n.toNat * ie.size) = ⟨r0, o0 + n.toNat * ie.size, none⟩ := by unfold Addr.add; split <;> simp_all
  exact ⟨.pointer (some ⟨r0, o0 + n.toNat * ie.size, none⟩), by simp [execOp, ho, Instr.indexAt, h2, h1, run_asIntOf, run_underlying hd, h0, hlt, ty_sizeOf he, e], rfl, rfl⟩
theorem Yld.indexAddr_arr {a : AS} (t : TypeId) (x j : Operand) {i ie : TyI} {e : TypeId} {r0 o0 len : Nat} {k : IntKind} {n : Int} (ht : E.ty t = some i) (hk : i.k = .array len e) (he : E.ty e = some ie)
    (hx : a.eval E x = .val (.pointer (some ⟨r0, o0, none⟩))) (hj : a.eval E j = .int k n) (h0 : 0 ≤ n) (hlt : n < len) : Yld E a (.indexAddr t x j) (.val (.pointer (some ⟨r0, o0 + n.toNat * ie.size, none⟩))) := by
  intro w I G act o ho g r
  have hd := ty_under ht
  rw [hk] at hd
  have h1 := r.eval g x
  rw [hx] at h1
  have h1 := R_val h1
  have h2 := r.eval g j
  rw [hj] at h2
  have h2 := R_int h2
  have e : (⟨r0, o0, none⟩ : Addr).add (n.toNat * ie.size) = ⟨r0, o0 + n.toNat * ie.size, none⟩ := by unfold Addr.add; split <;> simp_all
  exact ⟨.pointer (some ⟨r0, o0 + n.toNat * ie.size, none⟩), by simp [execOp, ho, Instr.indexAt, h2, h1, run_asIntOf, run_underlying hd, h0, hlt, ty_sizeOf he, e, Instr.sureAddr], rfl, rfl⟩

/-! ### Loads -/
theorem Yld.load_elem {a : AS} (t : TypeId) (x : Operand) {i : TyI} {cs : List PV} (ht : E.ty t = some i) (ho1 : okOne i = true) (hx : a.eval E x = .elem cs) (hl : i.size ≤ cs.length) : Yld E a (.load t x) (valOf i.k.isAgg (cs.take i.size)) := by
  intro w I G act o ho g r
  have h1 := r.eval g x
  rw [hx] at h1
  obtain ⟨ad, us, e, hr, hat⟩ := R_elem h1
  refine ⟨ofCells i.k.isAgg (us.take i.size), ?_, R_valOf (hr.take i.size) (fun hk => ?_)⟩
  · have hc : ∀ j u, (us.take i.size)[j]? = some u → w.cell? (ad.add j) = some u := by
      intro j u hj
      rw [List.getElem?_take] at hj
      split at hj
      · obtain ⟨ad', e', _, hc⟩ := hat (by intro hn; subst hn; simp at hj)
        injection e' with e'; subst e'
        exact hc j u hj
      · cases hj
    have := run_loadVar_known (E := E) (w := w) ht (us := us.take i.size) (by simp [hr.length, hl]) (okOne_spec ho1) hc
    simp [execOp, ho, Instr.loadAt, e, Instr.sureAddr, this]
  · have := okOne_spec ho1 hk; simp; omega
theorem cell_of_cells {r0 : Nat} {us rest : List Value} {t : TypeId} {fz : Nat × Nat} (hh : w.heap[r0]? = some (.cells (us ++ rest).toArray t fz)) {j : Nat} {u : Value} (hj : us[j]? = some u) : w.cell? ⟨r0, j, none⟩ = some u := by
  simp only [World.cell?, hh]
  have := (List.getElem?_eq_some_iff.1 hj).1
  simp [List.getElem?_append_left this, hj]
theorem Yld.load_val {a : AS} (t : TypeId) (x : Operand) {i : TyI} {r0 o0 : Nat} {t' : TypeId} {size : Nat} {cs : List PV} (ht : E.ty t = some i) (ho1 : okOne i = true) (hx : a.eval E x = .val (.pointer (some ⟨r0, o0, none⟩)))
    (hr0 : a.h r0 = some (.cells t' size cs)) (hl : o0 + i.size ≤ cs.length) : Yld E a (.load t x) (valOf i.k.isAgg ((cs.drop o0).take i.size)) := by
  intro w I G act o ho g r
  have h1 := r.eval g x
  rw [hx] at h1
  have h1 := R_val h1
  obtain ⟨_, _, _, us, rest, hh, hr, _⟩ := g.own _ _ hr0
  refine ⟨ofCells i.k.isAgg ((us.drop o0).take i.size), ?_, R_valOf ((hr.drop o0).take i.size) (fun hk => ?_)⟩
  · have hc : ∀ j u, ((us.drop o0).take i.size)[j]? = some u → w.cell? ((⟨r0, o0, none⟩ : Addr).add j) = some u := by
      intro j u hj
      rw [List.getElem?_take] at hj
      split at hj
      · rw [List.getElem?_drop] at hj
        have e : (⟨r0, o0, none⟩ : Addr).add j = ⟨r0, o0 + j, none⟩ := by unfold Addr.add; split <;> simp_all
        rw [e]
        exact cell_of_cells hh hj
      · cases hj
    have := run_loadVar_known (E := E) (w := w) ht (us := (us.drop o0).take i.size) (by simp [hr.length]; omega) (okOne_spec ho1) hc
    simp [execOp, ho, Instr.loadAt, h1, Instr.sureAddr, this]
  · have := okOne_spec ho1 hk; simp; omega
end
end Go.Proofs.Ythlibdhjcjangaa.Lift
