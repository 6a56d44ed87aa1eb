/- Operations that read memory, cut, and put together. -/
import Derived.Test.YtpgnfbdkhakbdaaGreatDoorLiftA
import Derived.Maps.AppendAt
import Derived.Lib.AppendStr
import Derived.Laws.CopyRow
import Derived.Laws.AppendOwn
set_option linter.unusedSimpArgs false
set_option linter.unusedVariables false
namespace Go.Proofs.YtpgnfbdkhakbdaaGreatDoor.Lift
open Go Go.RowKit

section
variable {E : Env} {w w1 w' : World} {I I1 I' : Nat → Prop} {G G1 G' : Nat → Option Nat} {h : Heap}

theorem R_list {sz : Nat} {xs : List (List PV)} {v : Value} (h : R w I (.list sz xs) v) : ∃ A c us, v = .slice A xs.length c ∧ xs.length ≤ c ∧ c ≤ maxLen ∧ RE w I sz xs us ∧ RowAt w I A us := by
  simpa only [R, R0, R1] using h
theorem R_elem {cs : List PV} {v : Value} (h : R w I (.elem cs) v) : ∃ ad us, v = .pointer (some ad) ∧ RL w I cs us ∧ RowAt w I (some ad) us := by
  simpa only [R, R0, R1] using h
theorem R_val {u v : Value} (h : R w I (.val u) v) : v = u := h.1
theorem R_int {k : IntKind} {n : Int} {v : Value} (h : R w I (.int k n) v) : v = .int k n := h
theorem R_str {l : List UInt8} {v : Value} (h : R w I (.str l) v) : v = .string ⟨l.toArray⟩ := h
theorem R_agg {cs : List PV} {v : Value} (h : R w I (.agg cs) v) : ∃ us, v = .agg us.toArray ∧ RL w I cs us := h

theorem ty_under {t : TypeId} {i : TyI} (h : E.ty t = some i) : i.k.desc E.P t := (E.agrees h).desc

def plen : PV → Option Nat
  | .str l => some l.length
  | .list _ xs => some xs.length
  | .val (.slice _ n _) => some n
  | .cap0 => some 0
  | _ => none
def okLen (k : TK) (v : PV) : Bool :=
  match k, v with
  | .str, .str _ => true
  | .slice _, .list .. => true
  | .slice _, .val (.slice ..) => true
  | .slice _, .cap0 => true
  | _, _ => false
theorem Yld.len {a : AS} (x : Operand) (t : TypeId) {i : TyI} {n : Nat} (ht : E.ty t = some i) (hk : okLen i.k (a.eval E x) = true) (hn : plen (a.eval E x) = some n) :
    Yld E a (.call { callee := .builtin .len, args := #[x], argTypes := #[t] }) (.int .i64 n) := by
  intro w I G act o ho g r
  have h1 := r.eval g x
  have hd := ty_under ht
  generalize a.eval E x = p at *
  refine ⟨.int .i64 n, ?_, rfl⟩
  have key : (Builtin.len_ #[t] o.type #[act.eval x]).run E.P w = .ok (.int .i64 n) w := by
    unfold okLen at hk
    split at hk
    · rename_i l he; rw [he] at hd
      rw [R_str h1]
      simp only [plen, Option.some.injEq] at hn
      simp [Builtin.len_, run_underlying hd, goInt, size_mk, ← hn]
    · rename_i e sz xs he; rw [he] at hd
      obtain ⟨A, c, us, e1, _⟩ := R_list h1
      rw [e1]
      simp only [plen, Option.some.injEq] at hn
      simp [Builtin.len_, run_underlying hd, goInt, ← hn]
    · rename_i e A n' c he; rw [he] at hd
      rw [R_val h1]
      simp only [plen, Option.some.injEq] at hn
      simp [Builtin.len_, run_underlying hd, goInt, ← hn]
    · rename_i e he; rw [he] at hd
      obtain ⟨A, e1⟩ : ∃ A, act.eval x = .slice A 0 0 := by simpa only [R, R0, R1] using h1
      rw [e1]
      simp only [plen, Option.some.injEq] at hn
      simp [Builtin.len_, run_underlying hd, goInt, ← hn]
    · cases hk
  simp [execOp, ho, resolve, invoke, builtin, key]
theorem Yld.cap_val {a : AS} (x : Operand) (t : TypeId) {i : TyI} {e : TypeId} {A : Option Addr} {n c : Nat} (ht : E.ty t = some i) (hk : i.k = .slice e) (hx : a.eval E x = .val (.slice A n c)) :
    Yld E a (.call { callee := .builtin .cap, args := #[x], argTypes := #[t] }) (.int .i64 c) := by
  intro w I G act o ho g r
  have h1 := r.eval g x
  have hd := ty_under ht
  rw [hk] at hd
  rw [hx] at h1
  refine ⟨.int .i64 c, ?_, rfl⟩
  simp [execOp, ho, resolve, invoke, builtin, Builtin.cap_, R_val h1, run_underlying hd, goInt]

theorem run_part_known {t : TypeId} {i : TyI} (ht : E.ty t = some i) (hs : i.k.isAgg = false → i.size = 1) {us : List Value} {off : Nat} (hl : off + i.size ≤ us.length) :
    (part t us.toArray off).run E.P w = .ok (ofCells i.k.isAgg ((us.drop off).take i.size)) w := by
  unfold part
  simp only [Sem.run_bind, ty_isAgg ht, Result.andThen_ok]
  cases hk : i.k.isAgg with
  | true =>
    simp only [if_true, Sem.run_bind, ty_sizeOf ht, Result.andThen_ok, ofCells]
    simp [Sem.run_pure, List.take_drop]
  | false =>
    have h1 := hs hk
    simp only [Bool.false_eq_true, if_false, List.getElem?_toArray]
    rw [List.getElem?_eq_getElem (by omega)]
    simp only [Sem.run_pure, ofCells, h1]
    simp [List.getD, List.getElem?_take, List.getElem?_drop, List.getElem?_eq_getElem (show off < us.length by omega)]
def fieldIn (E : Env) (k : TK) (f : Nat) : Option (Nat × TyI) :=
  match k with
  | .struct fs => match fs[f]? with
    | some (off, t) => (E.ty t).map fun i => (off, i)
    | none => none
  | _ => none
def fieldOf (E : Env) (s : TypeId) (f : Nat) : Option (Nat × TyI) :=
  match E.ty s with
  | some i => fieldIn E i.k f
  | none => none
theorem fieldOf_spec {s : TypeId} {f off : Nat} {i : TyI} (h : fieldOf E s f = some (off, i)) : ∃ fields fl, E.P.underlying s = some (.struct fields) ∧ fields[f]? = some fl ∧ fl.offset = off ∧ E.ty fl.type = some i := by
  unfold fieldOf at h
  cases hs : E.ty s with
  | none => rw [hs] at h; cases h
  | some j =>
    rw [hs] at h
    dsimp only at h
    have hd := ty_under hs
    unfold fieldIn at h
    split at h
    · rename_i fs he
      rw [he] at hd
      obtain ⟨fields, hd, hf⟩ := hd
      split at h
      · rename_i o t e2
        cases ht : E.ty t with
        | none => rw [ht] at h; cases h
        | some i' =>
          rw [ht] at h
          simp only [Option.map_some, Option.some.injEq, Prod.mk.injEq] at h
          obtain ⟨rfl, rfl⟩ := h
          rw [← hf, List.getElem?_map] at e2
          cases e3 : fields.toList[f]? with
          | none => rw [e3] at e2; cases e2
          | some fl =>
            rw [e3] at e2
            simp only [Option.map_some, Option.some.injEq, Prod.mk.injEq] at e2
            refine ⟨fields, fl, hd, by simpa using e3, e2.1, ?_⟩
            rw [e2.2]; exact ht
      · cases h
    · cases h
def okOne (i : TyI) : Bool := i.k.isAgg || i.size == 1
theorem okOne_spec {i : TyI} (h : okOne i = true) : i.k.isAgg = false → i.size = 1 := by
  intro hk; unfold okOne at h; rw [hk] at h; simpa using h
theorem Yld.field {a : AS} (s : TypeId) (x : Operand) (f : Nat) {off : Nat} {i : TyI} {cs : List PV} (hf : fieldOf E s f = some (off, i)) (ho1 : okOne i = true) (hx : a.eval E x = .agg cs) (hl : off + i.size ≤ cs.length) :
    Yld E a (.field s x f) (valOf i.k.isAgg ((cs.drop off).take i.size)) := by
  intro w I G act o ho g r
  obtain ⟨fields, fl, hd, he, hoff, ht⟩ := fieldOf_spec hf
  have h1 := r.eval g x
  rw [hx] at h1
  obtain ⟨us, e, hr⟩ := R_agg h1
  have hl' : fl.offset + i.size ≤ us.length := by rw [hr.length, hoff]; exact hl
  refine ⟨ofCells i.k.isAgg ((us.drop off).take i.size), ?_, R_valOf ((hr.drop off).take i.size) (fun hk => ?_)⟩
  · have := run_part_known (w := w) ht (okOne_spec ho1) hl'
    rw [hoff] at this
    simp [execOp, ho, Instr.field, run_underlying hd, he, e, asAgg, hoff, this]
  · have := okOne_spec ho1 hk
    simp; omega
theorem R0s.get : ∀ {xs : List PV} {us : List Value}, R0s w I xs us → ∀ {j : Nat} {x : PV}, xs[j]? = some x → ∃ u, us[j]? = some u ∧ R0 w I x u
  | [], _, _, j, x, hx => by simp at hx
  | y :: xs, _, ⟨v, us', e, h1, h2⟩, j, x, hx => by
    subst e
    cases j with
    | zero => simp at hx; subst hx; exact ⟨v, rfl, h1⟩
    | succ j => simpa using h2.get (by simpa using hx)
theorem R_of_R0 {x : PV} {v : Value} (h : R0 w I x v) : R w I x v := by
  cases x <;> first | exact h | (exact h.elim)
theorem Yld.extract {a : AS} (x : Operand) (j : Nat) {vs : List PV} {v : PV} (hx : a.eval E x = .tuple vs) (hj : vs[j]? = some v) : Yld E a (.extract x j) v := by
  intro w I G act o ho g r
  have h1 := r.eval g x
  rw [hx] at h1
  obtain ⟨us, e, hr⟩ : ∃ us, _ := h1
  obtain ⟨u, hu, h2⟩ := hr.get hj
  exact ⟨u, by simp [execOp, ho, Instr.extract, e, hu], R_of_R0 h2⟩

theorem Yld.fieldAddr_val {a : AS} (s : TypeId) (x : Operand) (f : Nat) {off : Nat} {i : TyI} {r0 o0 : Nat} (hf : fieldOf E s f = some (off, i)) (hz : i.size ≠ 0) (hx : a.eval E x = .val (.pointer (some ⟨r0, o0, none⟩))) :
    Yld E a (.fieldAddr s x f) (.val (.pointer (some ⟨r0, o0 + off, none⟩))) := by
  intro w I G act o ho g r
  obtain ⟨fields, fl, hd, he, hoff, ht⟩ := fieldOf_spec hf
  have h1 := r.eval g x
  rw [hx] at h1
  have e : (⟨r0, o0, none⟩ : Addr).add off = ⟨r0, o0 + off, none⟩ := by unfold Addr.add; split <;> simp_all
  exact ⟨.pointer (some ⟨r0, o0 + off, none⟩), by simp [execOp, ho, Instr.fieldAt, run_underlying hd, he, R_val h1, Instr.sureAddr, fieldPlace, ty_sizeOf ht, hz, hoff, e], rfl, rfl⟩
theorem RowAt.drop {ad : Addr} {us : List Value} (h : RowAt w I (some ad) us) (n : Nat) : RowAt w I (some (ad.add n)) (us.drop n) := by
  intro hne
  have hl : n < us.length := by
    have : 0 < (us.drop n).length := List.length_pos_iff.2 hne
    simp at this; omega
  obtain ⟨ad', e, hI, hc⟩ := h (by intro hn; subst hn; simp at hl)
  injection e with e; subst e
  refine ⟨_, rfl, by rw [add_block]; exact hI, fun j u hj => ?_⟩
  rw [List.getElem?_drop] at hj
  have := hc _ u hj
  have e : (ad.add n).add j = ad.add (n + j) := by
    unfold Addr.add
    by_cases hn : n = 0 <;> by_cases hj : j = 0 <;> simp [hn, hj, Nat.add_assoc]
  rw [e]; exact this
theorem Yld.fieldAddr_elem {a : AS} (s : TypeId) (x : Operand) (f : Nat) {off : Nat} {i : TyI} {cs : List PV} (hf : fieldOf E s f = some (off, i)) (hz : i.size ≠ 0) (hx : a.eval E x = .elem cs) :
    Yld E a (.fieldAddr s x f) (.elem (cs.drop off)) := by
  intro w I G act o ho g r
  obtain ⟨fields, fl, hd, he, hoff, ht⟩ := fieldOf_spec hf
  have h1 := r.eval g x
  rw [hx] at h1
  obtain ⟨ad, us, e, hr, hat⟩ := R_elem h1
  refine ⟨.pointer (some (ad.add off)), by simp [execOp, ho, Instr.fieldAt, run_underlying hd, he, e, Instr.sureAddr, fieldPlace, ty_sizeOf ht, hz, hoff], ?_⟩
  show R1 w I _ _
  simp only [R1]
  exact ⟨_, _, rfl, hr.drop off, hat.drop off⟩
theorem run_asIntOf (k : IntKind) (n : Int) : (asIntOf (.int k n)).run E.P w = .ok (k, n) w := rfl
theorem Yld.indexAddr_list {a : AS} (t : TypeId) (x j : Operand) {i ie : TyI} {e : TypeId} {sz : Nat} {xs : List (List PV)} {k : IntKind} {n : Int} {c : List PV} (ht : E.ty t = some i) (hk : i.k = .slice e) (he : E.ty e = some ie) (hsz : ie.size = sz) (hz : sz ≠ 0)
    (hx : a.eval E x = .list sz xs) (hj : a.eval E j = .int k n) (h0 : 0 ≤ n) (hc : xs[n.toNat]? = some c) : Yld E a (.indexAddr t x j) (.elem c) := by
  intro w I G act o ho g r
  have hd := ty_under ht
  rw [hk] at hd
  have h1 := r.eval g x
  rw [hx] at h1
  have h2 := r.eval g j
  rw [hj] at h2
  have h2 := R_int h2
  obtain ⟨A, cp, us, e1, hl, hm, hr, hat⟩ := R_list h1
  have hlt : n.toNat < xs.length := (List.getElem?_eq_some_iff.1 hc).1
  obtain ⟨u1, hr1, hl1, hu1⟩ := hr.at hc
  have hne : us ≠ [] := by
    intro hn
    have := hr.length
    rw [hn, List.length_nil] at this
    rcases Nat.mul_eq_zero.1 this.symm with h | h
    · omega
    · exact hz h
  obtain ⟨ad, rfl, hI, hcell⟩ := hat hne
  have hn2 : n < (xs.length : Int) := by omega
  refine ⟨.pointer (some (ad.add (n.toNat * sz))), ?_, ?_⟩
  · simp [execOp, ho, Instr.indexAt, h2, e1, run_asIntOf, run_underlying hd, h0, hn2, ty_sizeOf he, hsz]
  · show R1 w I _ _
    simp only [R1]
    refine ⟨_, u1, rfl, hr1, fun _ => ⟨_, rfl, by rw [add_block]; exact hI, fun j' u hj' => ?_⟩⟩
    have := hcell _ u (hu1 j' u hj')
    have e : (ad.add (n.toNat * sz)).add j' = ad.add (n.toNat * sz + j') := by
      unfold Addr.add
      by_cases hn : n.toNat * sz = 0 <;> by_cases hj : j' = 0 <;> simp [hn, hj, Nat.add_assoc]
    rw [e]; exact this
theorem Yld.indexAddr_val {a : AS} (t : TypeId) (x j : Operand) {i ie : TyI} {e : TypeId} {r0 o0 len cp : Nat} {k : IntKind} {n : Int} (ht : E.ty t = some i) (hk : i.k = .slice e) (he : E.ty e = some ie)
    (hx : a.eval E x = .val (.slice (some ⟨r0, o0, none⟩) len cp)) (hj : a.eval E j = .int k n) (h0 : 0 ≤ n) (hlt : n < len) : Yld E a (.indexAddr t x j) (.val (.pointer (some ⟨r0, o0 + n.toNat * ie.size, none⟩))) := by
  intro w I G act o ho g r
  have hd := ty_under ht
  rw [hk] at hd
  have h1 := r.eval g x
  rw [hx] at h1
  have h1 := R_val h1
  have h2 := r.eval g j
  rw [hj] at h2
  have h2 := R_int h2
  have e : (⟨r0, o0, none⟩ : Addr).add (n.toNat * ie.size) = ⟨r0, o0 + n.toNat * ie.size, none⟩ := by unfold Addr.add; split <;> simp_all
  exact ⟨.pointer (some ⟨r0, o0 + n.toNat * ie.size, none⟩), by simp [execOp, ho, Instr.indexAt, h2, h1, run_asIntOf, run_underlying hd, h0, hlt, ty_sizeOf he, e], rfl, rfl⟩
theorem Yld.indexAddr_arr {a : AS} (t : TypeId) (x j : Operand) {i ie : TyI} {e : TypeId} {r0 o0 len : Nat} {k : IntKind} {n : Int} (ht : E.ty t = some i) (hk : i.k = .array len e) (he : E.ty e = some ie)
    (hx : a.eval E x = .val (.pointer (some ⟨r0, o0, none⟩))) (hj : a.eval E j = .int k n) (h0 : 0 ≤ n) (hlt : n < len) : Yld E a (.indexAddr t x j) (.val (.pointer (some ⟨r0, o0 + n.toNat * ie.size, none⟩))) := by
  intro w I G act o ho g r
  have hd := ty_under ht
  rw [hk] at hd
  have h1 := r.eval g x
  rw [hx] at h1
  have h1 := R_val h1
  have h2 := r.eval g j
  rw [hj] at h2
  have h2 := R_int h2
  have e : (⟨r0, o0, none⟩ : Addr).add (n.toNat * ie.size) = ⟨r0, o0 + n.toNat * ie.size, none⟩ := by unfold Addr.add; split <;> simp_all
  exact ⟨.pointer (some ⟨r0, o0 + n.toNat * ie.size, none⟩), by simp [execOp, ho, Instr.indexAt, h2, h1, run_asIntOf, run_underlying hd, h0, hlt, ty_sizeOf he, e, Instr.sureAddr], rfl, rfl⟩

theorem Yld.load_elem {a : AS} (t : TypeId) (x : Operand) {i : TyI} {cs : List PV} (ht : E.ty t = some i) (ho1 : okOne i = true) (hx : a.eval E x = .elem cs) (hl : i.size ≤ cs.length) : Yld E a (.load t x) (valOf i.k.isAgg (cs.take i.size)) := by
  intro w I G act o ho g r
  have h1 := r.eval g x
  rw [hx] at h1
  obtain ⟨ad, us, e, hr, hat⟩ := R_elem h1
  refine ⟨ofCells i.k.isAgg (us.take i.size), ?_, R_valOf (hr.take i.size) (fun hk => ?_)⟩
  · have hc : ∀ j u, (us.take i.size)[j]? = some u → w.cell? (ad.add j) = some u := by
      intro j u hj
      rw [List.getElem?_take] at hj
      split at hj
      · obtain ⟨ad', e', _, hc⟩ := hat (by intro hn; subst hn; simp at hj)
        injection e' with e'; subst e'
        exact hc j u hj
      · cases hj
    have := run_loadVar_known (E := E) (w := w) ht (us := us.take i.size) (by simp [hr.length, hl]) (okOne_spec ho1) hc
    simp [execOp, ho, Instr.loadAt, e, Instr.sureAddr, this]
  · have := okOne_spec ho1 hk; simp; omega
theorem cell_of_cells {r0 : Nat} {us rest : List Value} {t : TypeId} {fz : Nat × Nat} (hh : w.heap[r0]? = some (.cells (us ++ rest).toArray t fz)) {j : Nat} {u : Value} (hj : us[j]? = some u) : w.cell? ⟨r0, j, none⟩ = some u := by
  simp only [World.cell?, hh]
  have := (List.getElem?_eq_some_iff.1 hj).1
  simp [List.getElem?_append_left this, hj]
theorem Yld.load_val {a : AS} (t : TypeId) (x : Operand) {i : TyI} {r0 o0 : Nat} {t' : TypeId} {size : Nat} {cs : List PV} (ht : E.ty t = some i) (ho1 : okOne i = true) (hx : a.eval E x = .val (.pointer (some ⟨r0, o0, none⟩)))
    (hr0 : a.h r0 = some (.cells t' size cs)) (hl : o0 + i.size ≤ cs.length) : Yld E a (.load t x) (valOf i.k.isAgg ((cs.drop o0).take i.size)) := by
  intro w I G act o ho g r
  have h1 := r.eval g x
  rw [hx] at h1
  have h1 := R_val h1
  obtain ⟨_, _, _, us, rest, hh, hr, _⟩ := g.own _ _ hr0
  refine ⟨ofCells i.k.isAgg ((us.drop o0).take i.size), ?_, R_valOf ((hr.drop o0).take i.size) (fun hk => ?_)⟩
  · have hc : ∀ j u, ((us.drop o0).take i.size)[j]? = some u → w.cell? ((⟨r0, o0, none⟩ : Addr).add j) = some u := by
      intro j u hj
      rw [List.getElem?_take] at hj
      split at hj
      · rw [List.getElem?_drop] at hj
        have e : (⟨r0, o0, none⟩ : Addr).add j = ⟨r0, o0 + j, none⟩ := by unfold Addr.add; split <;> simp_all
        rw [e]
        exact cell_of_cells hh hj
      · cases hj
    have := run_loadVar_known (E := E) (w := w) ht (us := (us.drop o0).take i.size) (by simp [hr.length]; omega) (okOne_spec ho1) hc
    simp [execOp, ho, Instr.loadAt, h1, Instr.sureAddr, this]
  · have := okOne_spec ho1 hk; simp; omega
end
end Go.Proofs.YtpgnfbdkhakbdaaGreatDoor.Lift

namespace Go.Proofs.YtpgnfbdkhakbdaaGreatDoor.Lift
open Go Go.RowKit

section
variable {E : Env} {w w1 w' : World} {I I1 I' : Nat → Prop} {G G1 G' : Nat → Option Nat} {h h' : Heap}

def evB (E : Env) (a : AS) (x : Option Operand) (d : Nat) : Option Int :=
  match x with
  | none => some d
  | some x => match a.eval E x with
    | .int _ n => some n
    | _ => none
theorem run_sliceBound_in (k : IntKind) (i : Int) (y : Nat) (code : BoundsCode) (h0 : 0 ≤ i) (h1 : i ≤ y) : (Instr.sliceBound (.int k i) y code).run E.P w = .ok i.toNat w := by
  simp [Instr.sliceBound, run_asIntOf, h0, h1]
theorem run_bounds {a : AS} {act : Act} (g : Good E w I G a.h) (r : RS E w I a act) {sl : Bool} {len cap : Nat} {lo hi : Option Operand} {L H : Int} (hlo : evB E a lo 0 = some L) (hhi : evB E a hi len = some H) (h0 : 0 ≤ L) (h1 : L ≤ H) (h2 : H ≤ cap) :
    (Instr.sliceBounds sl len cap (lo.map act.eval) (hi.map act.eval) none).run E.P w = .ok (L.toNat, H.toNat, cap) w := by
  have hL : ∀ H' C : Nat, (L : Int) ≤ H' → (match (lo.map act.eval) with | some v => (do let l ← Instr.sliceBound v H' .sliceB; pure (l, H', C) : Sem (Nat × Nat × Nat)) | none => (do let l ← pure 0; pure (l, H', C))).run E.P w = .ok (L.toNat, H', C) w := by
    intro H' C hh
    cases lo with
    | none => simp only [evB, Option.some.injEq] at hlo; simp only [Option.map_none, Sem.run_pure, Sem.run_bind, Result.andThen_ok]; congr 2; omega
    | some x =>
      simp only [evB] at hlo
      have := r.eval g x
      split at hlo
      · rename_i k n e
        injection hlo with hlo; subst hlo
        rw [e] at this
        simp only [Option.map_some]
        rw [R_int this, Sem.run_bind, run_sliceBound_in k n H' _ h0 hh]
        rfl
      · cases hlo
  cases hi with
  | none =>
    simp only [evB, Option.some.injEq] at hhi
    have hl := hL len cap (by omega)
    simp only [Instr.sliceBounds, Option.map_none, Sem.run_bind, Sem.run_pure, Result.andThen_ok, Option.isSome_none, Bool.false_eq_true, if_false]
    have eH : len = H.toNat := by omega
    rw [← eH]
    exact hl
  | some x =>
    simp only [evB] at hhi
    have hx := r.eval g x
    split at hhi
    · rename_i k n e
      injection hhi with hhi; subst hhi
      rw [e] at hx
      have hl := hL n.toNat cap (by omega)
      simp only [Instr.sliceBounds, Option.map_some, Sem.run_bind, Sem.run_pure, Result.andThen_ok, Option.isSome_none, Bool.false_eq_true, if_false]
      rw [R_int hx, run_sliceBound_in k n cap _ (by omega) h2]
      simp only [Result.andThen_ok]
      exact hl
    · cases hhi
theorem extract_mk (l : List UInt8) (a b : Nat) : (⟨l.toArray⟩ : ByteArray).extract a b = ⟨((l.take b).drop a).toArray⟩ := by
  apply ByteArray.ext
  simp [ByteArray.data_extract, List.extract_eq_take_drop, List.take_drop]
  by_cases hab : a ≤ b
  · rw [show a + (b - a) = b by omega]
  · rw [List.drop_eq_nil_of_le (by simp; omega), List.drop_eq_nil_of_le (by simp; omega)]
theorem Yld.slice_str {a : AS} (t : TypeId) (x : Operand) (lo hi : Option Operand) {i : TyI} {l : List UInt8} {L H : Int} (ht : E.ty t = some i) (hk : i.k = .str) (hx : a.eval E x = .str l) (hlo : evB E a lo 0 = some L) (hhi : evB E a hi l.length = some H) (h0 : 0 ≤ L) (h1 : L ≤ H) (h2 : H ≤ l.length) :
    Yld E a (.slice t x lo hi none) (.str ((l.take H.toNat).drop L.toNat)) := by
  intro w I G act o ho g r
  have hd := ty_under ht
  rw [hk] at hd
  have hx' := r.eval g x
  rw [hx] at hx'
  have hb := run_bounds (sl := false) (cap := l.length) g r hlo hhi h0 h1 h2
  refine ⟨.string ⟨((l.take H.toNat).drop L.toNat).toArray⟩, ?_, rfl⟩
  simp [execOp, ho, Instr.sliceAt, run_underlying hd, Instr.slice, R_str hx', size_mk, hb, extract_mk]
theorem Yld.slice_list {a : AS} (t : TypeId) (x : Operand) (lo hi : Option Operand) {i ie : TyI} {e : TypeId} {sz : Nat} {xs : List (List PV)} {L H : Int} (ht : E.ty t = some i) (hk : i.k = .slice e) (he : E.ty e = some ie) (hsz : ie.size = sz) (hx : a.eval E x = .list sz xs) (hlo : evB E a lo 0 = some L) (hhi : evB E a hi xs.length = some H) (h0 : 0 ≤ L) (h1 : L ≤ H) (h2 : H ≤ xs.length) :
    Yld E a (.slice t x lo hi none) (.list sz ((xs.take H.toNat).drop L.toNat)) := by
  intro w I G act o ho g r
  have hd := ty_under ht
  rw [hk] at hd
  have hx' := r.eval g x
  rw [hx] at hx'
  obtain ⟨A, cp, us, e1, hl, hm, hr, hat⟩ := R_list hx'
  have hb := run_bounds (sl := true) (cap := cp) g r hlo hhi h0 h1 (by omega)
  refine ⟨.slice (if cp = L.toNat then A else A.map (·.add (L.toNat * sz))) (H.toNat - L.toNat) (cp - L.toNat), ?_, ?_⟩
  · simp [execOp, ho, Instr.sliceAt, run_underlying hd, Instr.slice, e1, hb, ty_sizeOf he, hsz]
  · show R1 w I _ _
    simp only [R1]
    have hre := (hr.take H.toNat).drop L.toNat
    refine ⟨if cp = L.toNat then A else A.map (·.add (L.toNat * sz)), cp - L.toNat, _, by simp; omega, by simp; omega, by omega, hre, ?_⟩
    intro hne
    have hlen : L.toNat < H.toNat := by
      have := hre.length
      have hp := List.length_pos_iff.2 hne
      rw [this] at hp
      simp at hp
      have := Nat.pos_of_mul_pos_right hp
      omega
    have hne' : us ≠ [] := by
      intro hn; subst hn; simp at hne
    obtain ⟨ad, rfl, hI, hc⟩ := hat hne'
    rw [if_neg (by omega)]
    refine ⟨ad.add (L.toNat * sz), rfl, by rw [add_block]; exact hI, fun j u hj => ?_⟩
    rw [List.getElem?_drop, List.getElem?_take] at hj
    split at hj
    · have := hc _ u hj
      have e : (ad.add (L.toNat * sz)).add j = ad.add (L.toNat * sz + j) := by
        unfold Addr.add
        by_cases hn : L.toNat * sz = 0 <;> by_cases hj : j = 0 <;> simp [hn, hj, Nat.add_assoc]
      rw [e]; exact this
    · cases hj
theorem Yld.slice_val {a : AS} (t : TypeId) (x : Operand) (lo hi : Option Operand) {i ie : TyI} {e : TypeId} {r0 o0 n cp : Nat} {L H : Int} (ht : E.ty t = some i) (hk : i.k = .slice e) (he : E.ty e = some ie) (hx : a.eval E x = .val (.slice (some ⟨r0, o0, none⟩) n cp)) (hlo : evB E a lo 0 = some L) (hhi : evB E a hi n = some H) (h0 : 0 ≤ L) (h1 : L ≤ H) (h2 : H ≤ cp) :
    Yld E a (.slice t x lo hi none) (.val (.slice (some ⟨r0, o0 + (if cp = L.toNat then 0 else L.toNat * ie.size), none⟩) (H.toNat - L.toNat) (cp - L.toNat))) := by
  intro w I G act o ho g r
  have hd := ty_under ht
  rw [hk] at hd
  have hx' := r.eval g x
  rw [hx] at hx'
  have hb := run_bounds (sl := true) (cap := cp) g r hlo hhi h0 h1 h2
  refine ⟨_, ?_, rfl, rfl⟩
  have e : (⟨r0, o0, none⟩ : Addr).add (L.toNat * ie.size) = ⟨r0, o0 + L.toNat * ie.size, none⟩ := by unfold Addr.add; split <;> simp_all
  by_cases hc : cp = L.toNat
  · simp [execOp, ho, Instr.sliceAt, run_underlying hd, Instr.slice, R_val hx', hb, ty_sizeOf he, ← hc]
  · simp [execOp, ho, Instr.sliceAt, run_underlying hd, Instr.slice, R_val hx', hb, ty_sizeOf he, hc, e]
theorem Yld.slice_nil {a : AS} (t : TypeId) (x : Operand) (lo hi : Option Operand) {i ie : TyI} {e : TypeId} {L H : Int} (ht : E.ty t = some i) (hk : i.k = .slice e) (he : E.ty e = some ie) (hx : a.eval E x = .val (.slice none 0 0)) (hlo : evB E a lo 0 = some L) (hhi : evB E a hi 0 = some H) (h0 : 0 ≤ L) (h1 : L ≤ H) (h2 : H ≤ 0) :
    Yld E a (.slice t x lo hi none) (.val (.slice none 0 0)) := by
  intro w I G act o ho g r
  have hd := ty_under ht
  rw [hk] at hd
  have hx' := r.eval g x
  rw [hx] at hx'
  have hb := run_bounds (sl := true) (cap := 0) g r hlo hhi h0 h1 (by simpa using h2)
  refine ⟨.slice none 0 0, ?_, rfl, rfl⟩
  have e1 : L.toNat = 0 := by omega
  have e2 : H.toNat = 0 := by omega
  rw [e1, e2] at hb
  simp [execOp, ho, Instr.sliceAt, run_underlying hd, Instr.slice, R_val hx', hb, ty_sizeOf he]
theorem Yld.indexAddr_elem {a : AS} (t : TypeId) (x j : Operand) {i ie : TyI} {e : TypeId} {len : Nat} {cs : List PV} {k : IntKind} {n : Int} (ht : E.ty t = some i) (hk : i.k = .array len e) (he : E.ty e = some ie)
    (hx : a.eval E x = .elem cs) (hj : a.eval E j = .int k n) (h0 : 0 ≤ n) (hlt : n < len) : Yld E a (.indexAddr t x j) (.elem (cs.drop (n.toNat * ie.size))) := by
  intro w I G act o ho g r
  have hd := ty_under ht
  rw [hk] at hd
  have h1 := r.eval g x
  rw [hx] at h1
  obtain ⟨ad, us, e1, hr, hat⟩ := R_elem h1
  have h2 := r.eval g j
  rw [hj] at h2
  have h2 := R_int h2
  refine ⟨.pointer (some (ad.add (n.toNat * ie.size))), by simp [execOp, ho, Instr.indexAt, h2, e1, run_asIntOf, run_underlying hd, h0, hlt, ty_sizeOf he, Instr.sureAddr], ?_⟩
  show R1 w I _ _
  simp only [R1]
  exact ⟨_, _, rfl, hr.drop _, hat.drop _⟩
theorem Yld.index_agg {a : AS} (t : TypeId) (x j : Operand) {i ie : TyI} {e : TypeId} {len : Nat} {cs : List PV} {k : IntKind} {n : Int} (ht : E.ty t = some i) (hk : i.k = .array len e) (he : E.ty e = some ie) (ho1 : okOne ie = true)
    (hx : a.eval E x = .agg cs) (hj : a.eval E j = .int k n) (h0 : 0 ≤ n) (hlt : n < len) (hl : n.toNat * ie.size + ie.size ≤ cs.length) : Yld E a (.index t x j) (valOf ie.k.isAgg ((cs.drop (n.toNat * ie.size)).take ie.size)) := by
  intro w I G act o ho g r
  have hd := ty_under ht
  rw [hk] at hd
  have h1 := r.eval g x
  rw [hx] at h1
  obtain ⟨us, e1, hr⟩ := R_agg h1
  have h2 := r.eval g j
  rw [hj] at h2
  have h2 := R_int h2
  have hl' : n.toNat * ie.size + ie.size ≤ us.length := by rw [hr.length]; exact hl
  refine ⟨ofCells ie.k.isAgg ((us.drop (n.toNat * ie.size)).take ie.size), ?_, R_valOf ((hr.drop _).take ie.size) (fun hk => ?_)⟩
  · have := run_part_known (w := w) he (okOne_spec ho1) hl'
    simp [execOp, ho, Instr.index, run_underlying hd, h2, e1, run_asIntOf, h0, hlt, ty_sizeOf he, this]
  · have := okOne_spec ho1 hk
    simp; omega
theorem Yld.index_str {a : AS} (t : TypeId) (x j : Operand) {i : TyI} {l : List UInt8} {k : IntKind} {n : Int} {b : UInt8} (ht : E.ty t = some i) (hk : i.k = .str) (hx : a.eval E x = .str l) (hj : a.eval E j = .int k n) (h0 : 0 ≤ n) (hb : l[n.toNat]? = some b) : Yld E a (.index t x j) (.int .u8 b.toNat) := by
  intro w I G act o ho g r
  have hd := ty_under ht
  rw [hk] at hd
  have hx' := r.eval g x
  rw [hx] at hx'
  have hj' := r.eval g j
  rw [hj] at hj'
  refine ⟨.int .u8 b.toNat, ?_, rfl⟩
  have e : (⟨l.toArray⟩ : ByteArray)[n.toNat]? = some b := by
    have hlt := (List.getElem?_eq_some_iff.1 hb).1
    rw [List.getElem?_eq_getElem hlt] at hb
    injection hb with hb
    rw [getElem?_pos _ _ (by rw [size_mk]; exact hlt)]
    subst hb
    rfl
  simp [execOp, ho, Instr.index, run_underlying hd, R_str hx', R_int hj', run_asIntOf, h0, e]

def splice (cs : List PV) (off : Nat) (xs : List PV) : List PV := cs.take off ++ xs ++ cs.drop (off + xs.length)
def pfill (place : Nat → Option (Nat × Nat)) (cells : List PV) : List (Nat × PV) → Option (List PV)
  | [] => some cells
  | (i, v) :: rest => match place i with
    | none => none
    | some (off, size) => if v.cells.length = size ∧ off + size ≤ cells.length then pfill place (splice cells off v.cells) rest else none
theorem foldl_set : ∀ (vs : List Value) (k off : Nat) (cs : List Value), off + k + vs.length ≤ cs.length →
    (vs.zipIdx k).foldl (fun (c : Array Value) (x : Value × Nat) => c.setIfInBounds (off + x.2) x.1) cs.toArray = (cs.take (off + k) ++ vs ++ cs.drop (off + k + vs.length)).toArray
  | [], k, off, cs, h => by simp
  | v :: vs, k, off, cs, h => by
    simp only [List.zipIdx_cons, List.foldl_cons, List.length_cons] at h ⊢
    rw [show (cs.toArray.setIfInBounds (off + k) v) = (cs.set (off + k) v).toArray by simp]
    rw [foldl_set vs (k + 1) off (cs.set (off + k) v) (by simp; omega)]
    congr 1
    rw [show off + (k + 1) = (off + k) + 1 by omega]
    rw [List.take_succ_eq_append_getElem (by simp; omega), List.take_set_of_le (by omega)]
    simp only [List.getElem_set_self]
    rw [List.drop_set_of_lt (by omega)]
    simp [Nat.add_assoc, Nat.add_comm, Nat.add_left_comm]
theorem R.cells {x : PV} {v : Value} (h : R w I x v) (h1 : x ≠ .any) (h2 : ∀ c, x ≠ .tuple c) : RL w I x.cells v.cells.toList := by
  cases x with
  | any => exact absurd rfl h1
  | tuple c => exact absurd rfl (h2 c)
  | agg cs => obtain ⟨us, rfl, h'⟩ := R_agg h; simpa [PV.cells, Value.cells] using h'
  | _ =>
    simp only [PV.cells, RL]
    refine ⟨v, [], ?_, h, rfl⟩
    have h1 : v.oneCell' = true := R1.one (w := w) (I := I) h
    cases v <;> simp [Value.oneCell', Value.cells] at h1 ⊢
def known (l : List (Nat × PV)) : Bool := l.all fun x => match x.2 with | .any | .tuple _ => false | _ => true
theorem pfill_run {place : Nat → Option (Nat × Nat)} : ∀ {parts : List (Nat × PV)} {vs : List (Nat × Value)} {cells cells' : List PV} {us : List Value}, known parts = true → parts.map (·.1) = vs.map (·.1) →
    (∀ (j : Nat) (x : Nat × PV) (v : Nat × Value), parts[j]? = some x → vs[j]? = some v → R w I x.2 v.2) → RL w I cells us → pfill place cells parts = some cells' → ∃ us', Instr.fill place us.toArray vs = some us'.toArray ∧ RL w I cells' us'
  | [], vs, cells, cells', us, _, hm, _, hr, hf => by
    cases vs with
    | cons => simp at hm
    | nil =>
      simp only [pfill, Option.some.injEq] at hf
      subst hf
      exact ⟨us, rfl, hr⟩
  | (i, x) :: parts, vs, cells, cells', us, hk, hm, hR, hr, hf => by
    cases vs with
    | nil => simp at hm
    | cons v vs =>
      obtain ⟨i', v⟩ := v
      simp only [List.map_cons, List.cons.injEq] at hm
      obtain ⟨rfl, hm⟩ := hm
      simp only [known, List.all_cons, Bool.and_eq_true] at hk
      simp only [pfill] at hf
      simp only [Instr.fill]
      cases hp : place i with
      | none => rw [hp] at hf; cases hf
      | some p =>
        obtain ⟨off, size⟩ := p
        rw [hp] at hf
        dsimp only at hf ⊢
        split at hf
        · rename_i hc
          have hx : R w I x v := hR 0 (i, x) (i, v) rfl rfl
          have hxc := hx.cells (by intro e; subst e; simp at hk) (by intro c e; subst e; simp at hk)
          have hl := hxc.length
          have hrl := hr.length
          have hsz : v.cells.size = size := by rw [← Array.length_toList, hl, hc.1]
          rw [if_neg (by rw [hsz]; simp [hrl]; omega)]
          have e1 : v.cells.zipIdx.foldl (fun cs (x : Value × Nat) => match x with | (c, j) => cs.setIfInBounds (off + j) c) us.toArray = (us.take off ++ v.cells.toList ++ us.drop (off + v.cells.toList.length)).toArray := by
            have := foldl_set v.cells.toList 0 off us (by rw [hl]; omega)
            simp only [Nat.add_zero] at this
            rw [← this, ← Array.foldl_toList]
            simp
          rw [e1]
          have hr' : RL w I (splice cells off x.cells) (us.take off ++ v.cells.toList ++ us.drop (off + v.cells.toList.length)) := by
            unfold splice
            rw [← hl]
            exact ((hr.take off).append hxc).append (hr.drop _)
          exact pfill_run (by simpa [known] using hk.2) hm (fun j y z hy hz => hR (j + 1) y z (by simpa using hy) (by simpa using hz)) hr' hf
        · cases hf
end
end Go.Proofs.YtpgnfbdkhakbdaaGreatDoor.Lift

namespace Go.Proofs.YtpgnfbdkhakbdaaGreatDoor.Lift
open Go Go.RowKit

section
variable {E : Env} {w w1 w' : World} {I I1 I' : Nat → Prop} {G G1 G' : Nat → Option Nat} {h h' : Heap}

theorem RObj.keeps {r : Nat} {o : AObj} (hk : Keeps w I w' I') (hr : w'.heap[r]? = w.heap[r]?) (hG : ∀ k, G k = some r → G' k = some r ∧ w'.heap[k]? = w.heap[k]?) (ho : RObj w I G r o) : RObj w' I' G' r o := by
  cases o with
  | cells t size cs =>
    obtain ⟨us, rest, hh, h1, h2⟩ := ho
    exact ⟨us, rest, hr.trans hh, RL.keeps hk _ _ h1, h2⟩
  | iter s pos => exact hr.trans ho
  | pmap o' => exact hr.trans ho
  | miter m since seen => exact hr.trans ho
  | gmap ka va es n => obtain ⟨ents, hh, h1⟩ := ho; exact ⟨ents, hr.trans hh, RM.keeps hk _ _ h1⟩
  | bld T e bs =>
    rcases ho with ⟨h1, p, h2, h3⟩ | ⟨k, cap, rest, h1, h2, h3, h4, h5⟩
    · exact .inl ⟨h1, p, h2, hr.trans h3⟩
    · exact .inr ⟨k, cap, rest, (hG k h1).1, hr.trans h2, (hG k h1).2.trans h3, h4, h5⟩

theorem Good.alloc_imm (g : Good E w I G h) (hsz : w'.heap.size = w.heap.size + 1) (hb : ∀ k, k < w.heap.size → w'.heap[k]? = w.heap[k]?) (ho : w'.os = w.os) (ht : w'.tape = w.tape) (hout : w'.output = w.output) (hdr : E.mono = true → w.drawn ≤ w'.drawn := by first | exact fun _ => Nat.le_refl _ | exact fun _ => Nat.le_succ _) :
    Good E w' (fun k => I k ∨ k = w.heap.size) G h ∧ Stp E.mono w I G h w' (fun k => I k ∨ k = w.heap.size) G h := by
  have hk : Keeps w I w' (fun k => I k ∨ k = w.heap.size) := fun k hk => ⟨.inl hk, hb k (g.imm k hk)⟩
  refine ⟨⟨fun r o hr => ?_, fun k r hk' => ?_, fun k hk' => ?_, fun gl cs hgl => R1.keeps hk _ _ (g.glob gl cs hgl), E.keepW _ _ _ _ hk g.inv⟩, ⟨ho, ht, hout, by omega, fun k hk' a b => ⟨hb k hk', a, b⟩, fun k hk' => .inl hk', fun k hk' a b hi => ?_, hdr⟩⟩
  · obtain ⟨h1, h2, h3, h4⟩ := g.own r o hr
    exact ⟨by omega, fun hi => by rcases hi with hi | hi; exact h2 hi; omega, h3, h4.keeps hk (hb r h1) (fun k hk' => ⟨hk', hb k (g.hid k r hk').1⟩)⟩
  · obtain ⟨h1, h2, h3, h4⟩ := g.hid k r hk'
    exact ⟨by omega, fun hi => by rcases hi with hi | hi; exact h2 hi; omega, h3, h4⟩
  · rcases hk' with hk' | hk'
    · have := g.imm k hk'; omega
    · omega
  · rcases hi with hi | hi
    · exact hi
    · omega
theorem Good.fresh (g : Good E w I G h) : h w.heap.size = none := by
  cases e : h w.heap.size with
  | none => rfl
  | some o => have := (g.own _ _ e).1; omega
theorem Good.freshG (g : Good E w I G h) : G w.heap.size = none := by
  cases e : G w.heap.size with
  | none => rfl
  | some o => have := (g.hid _ _ e).1; omega
theorem Good.freshI (g : Good E w I G h) : ¬ I w.heap.size := fun hi => by have := g.imm _ hi; omega
theorem Good.alloc_own (g : Good E w I G h) (hsz : w'.heap.size = w.heap.size + 1) (hb : ∀ k, k < w.heap.size → w'.heap[k]? = w.heap[k]?) (ho : w'.os = w.os) (ht : w'.tape = w.tape) (hout : w'.output = w.output) {ob : AObj} (hob : RObj w' I G w.heap.size ob) (hdr : E.mono = true → w.drawn ≤ w'.drawn := by first | exact fun _ => Nat.le_refl _ | exact fun _ => Nat.le_succ _) :
    Good E w' I G (h.put w.heap.size ob) ∧ Stp E.mono w I G h w' I G (h.put w.heap.size ob) := by
  have hk : Keeps w I w' I := fun k hk => ⟨hk, hb k (g.imm k hk)⟩
  refine ⟨⟨fun r o hr => ?_, fun k r hk' => ?_, fun k hk' => ?_, fun gl cs hgl => R1.keeps hk _ _ (g.glob gl cs hgl), E.keepW _ _ _ _ hk g.inv⟩, ⟨ho, ht, hout, by omega, fun k hk' a b => ⟨hb k hk', ?_, b⟩, fun k hk' => hk', fun k hk' a b hi => hi, hdr⟩⟩
  · by_cases e : r = w.heap.size
    · subst e
      rw [Heap.put_same] at hr
      injection hr with hr; subst hr
      exact ⟨by omega, g.freshI, g.freshG, hob⟩
    · rw [Heap.put_ne _ _ e] at hr
      obtain ⟨h1, h2, h3, h4⟩ := g.own r o hr
      exact ⟨by omega, h2, h3, h4.keeps hk (hb r h1) (fun k hk' => ⟨hk', hb k (g.hid k r hk').1⟩)⟩
  · obtain ⟨h1, h2, h3, T, e, bs, h4⟩ := g.hid k r hk'
    have := (g.own _ _ h4).1
    exact ⟨by omega, h2, by rw [Heap.put_none]; exact ⟨by omega, h3⟩, T, e, bs, by rw [Heap.put_ne _ _ (by omega)]; exact h4⟩
  · have := g.imm k hk'; omega
  · rw [Heap.put_none]; exact ⟨by omega, a⟩
def AObj.plain : AObj → Bool
  | .bld .. => false
  | _ => true
theorem Good.noHid (g : Good E w I G h) {r : Nat} {o : AObj} (hr : h r = some o) (hp : o.plain = true) : ∀ k, G k ≠ some r := by
  intro k hk
  obtain ⟨_, _, _, T, e, bs, h4⟩ := g.hid k r hk
  rw [hr] at h4
  injection h4 with h4
  subst h4
  cases hp
theorem Good.write (g : Good E w I G h) {r : Nat} {o ob : AObj} (hr : h r = some o) (hp : o.plain = true) (hsz : w'.heap.size = w.heap.size) (hb : ∀ k, k ≠ r → w'.heap[k]? = w.heap[k]?) (ho : w'.os = w.os) (ht : w'.tape = w.tape) (hout : w'.output = w.output) (hob : RObj w' I G r ob) (hdr : E.mono = true → w.drawn ≤ w'.drawn := by first | exact fun _ => Nat.le_refl _ | exact fun _ => Nat.le_succ _) :
    Good E w' I G (h.put r ob) ∧ Stp E.mono w I G h w' I G (h.put r ob) := by
  obtain ⟨r1, r2, r3, _⟩ := g.own r o hr
  have hnh := g.noHid hr hp
  have hk : Keeps w I w' I := fun k hk => ⟨hk, hb k (fun e => r2 (e ▸ hk))⟩
  refine ⟨⟨fun q o' hq => ?_, fun k q hk' => ?_, fun k hk' => ?_, fun gl cs hgl => R1.keeps hk _ _ (g.glob gl cs hgl), E.keepW _ _ _ _ hk g.inv⟩, ⟨ho, ht, hout, by omega, fun k hk' a b => ⟨hb k (fun e => by subst e; rw [hr] at a; cases a), ?_, b⟩, fun k hk' => hk', fun k hk' a b hi => hi, hdr⟩⟩
  · by_cases e : q = r
    · subst e
      rw [Heap.put_same] at hq
      injection hq with hq; subst hq
      exact ⟨by omega, r2, r3, hob⟩
    · rw [Heap.put_ne _ _ e] at hq
      obtain ⟨h1, h2, h3, h4⟩ := g.own q o' hq
      exact ⟨by omega, h2, h3, h4.keeps hk (hb q e) (fun k hk' => ⟨hk', hb k (fun e' => by subst e'; have := (g.hid k q hk').2.2.1; rw [hr] at this; cases this)⟩)⟩
  · obtain ⟨h1, h2, h3, T, e', bs, h4⟩ := g.hid k q hk'
    have hqr : q ≠ r := fun e => hnh k (by rw [hk', e])
    refine ⟨by omega, h2, ?_, T, e', bs, ?_⟩
    · rw [Heap.put_none]
      exact ⟨fun e => (by subst e; rw [hr] at h3; cases h3), h3⟩
    · rw [Heap.put_ne _ _ hqr]; exact h4
  · have := g.imm k hk'; omega
  · rw [Heap.put_none]; exact ⟨fun e => (by subst e; rw [hr] at a; cases a), a⟩
theorem Good.let_go (g : Good E w I G h) {r : Nat} {o : AObj} (hr : h r = some o) (hp : o.plain = true) : Good E w (fun k => I k ∨ k = r) G (h.del r) ∧ Stp E.mono w I G h w (fun k => I k ∨ k = r) G (h.del r) := by
  obtain ⟨r1, r2, r3, _⟩ := g.own r o hr
  have hnh := g.noHid hr hp
  have hk : Keeps w I w (fun k => I k ∨ k = r) := fun k hk => ⟨.inl hk, rfl⟩
  refine ⟨⟨fun q o' hq => ?_, fun k q hk' => ?_, fun k hk' => ?_, fun gl cs hgl => R1.keeps hk _ _ (g.glob gl cs hgl), E.keepW _ _ _ _ hk g.inv⟩, ⟨rfl, rfl, rfl, by omega, fun k hk' a b => ⟨rfl, ?_, b⟩, fun k hk' => .inl hk', fun k hk' a b hi => ?_, fun _ => Nat.le_refl _⟩⟩
  · by_cases e : q = r
    · subst e; rw [Heap.del_same] at hq; cases hq
    · rw [Heap.del_ne _ e] at hq
      obtain ⟨h1, h2, h3, h4⟩ := g.own q o' hq
      exact ⟨h1, fun hi => by rcases hi with hi | hi; exact h2 hi; exact e hi, h3, h4.keeps hk rfl (fun k hk' => ⟨hk', rfl⟩)⟩
  · obtain ⟨h1, h2, h3, T, e', bs, h4⟩ := g.hid k q hk'
    have hqr : q ≠ r := fun e => hnh k (by rw [hk', e])
    refine ⟨h1, fun hi => (by rcases hi with hi | hi; exact h2 hi; subst hi; rw [hr] at h3; cases h3), ?_, T, e', bs, (Heap.del_ne h hqr).trans h4⟩
    by_cases e : k = r
    · subst e; exact Heap.del_same _ _
    · rw [Heap.del_ne _ e]; exact h3
  · rcases hk' with hk' | hk'
    · exact g.imm k hk'
    · omega
  · by_cases e : k = r
    · subst e; exact Heap.del_same _ _
    · rw [Heap.del_ne _ e]; exact a
  · rcases hi with hi | hi
    · exact hi
    · subst hi; rw [hr] at a; cases a

def YldW (E : Env) (a : AS) (op : Op) (v : PV) : Prop :=
  ∀ w I G act (o : Oper), o.op = op → Good E w I G a.h → RS E w I a act → ∃ u w' I', (execOp act.eval o).run E.P w = .ok (.value u) w' ∧ Good E w' I' G a.h ∧ Stp E.mono w I G a.h w' I' G a.h ∧ R w' I' v u
theorem put_h (a : AS) (d : Option Tmp) (v : PV) : (a.put d v).h = a.h := by cases d <;> rfl
theorem heap_alloc_lt (w : World) (o : Obj) (k : Nat) (hk : k < w.heap.size) : (w.alloc o).heap[k]? = w.heap[k]? := Below.heap_alloc w o k hk
theorem heap_alloc_at (w : World) (o : Obj) : (w.alloc o).heap[w.heap.size]? = some o := by
  show (w.heap.push o)[w.heap.size]? = some o
  simp
theorem run_newRow (t : TypeId) (cs : Array Value) (w : World) : (newRow t cs).run E.P w = .ok ⟨w.heap.size, 0, none⟩ (w.alloc (.cells cs t)) := rfl
theorem zeroRow (z : List Value) (n : Nat) : ((Array.range (n * z.length)).map (z.toArray[· % z.toArray.size]!)) = (List.replicate n z).flatten.toArray := by
  apply Array.ext'
  simp only [Array.toList_map, Array.toList_range, List.size_toArray]
  induction n with
  | zero => simp
  | succ n ih =>
    rw [Nat.add_mul, Nat.one_mul, List.range_add, List.map_append, ih, List.replicate_succ', List.flatten_append]
    congr 1
    simp only [List.map_map, List.flatten_cons, List.flatten_nil, List.append_nil]
    apply List.ext_getElem
    · simp
    · intro j h1 h2
      simp only [List.length_map, List.length_range] at h1
      simp [Nat.mul_add_mod_of_lt h1, h1, Nat.mod_eq_of_lt h1, Nat.add_comm, Nat.mul_comm n]
end
end Go.Proofs.YtpgnfbdkhakbdaaGreatDoor.Lift

namespace Go.Proofs.YtpgnfbdkhakbdaaGreatDoor.Lift
open Go Go.RowKit

section
variable {E : Env} {w w1 w' : World} {I I1 I' : Nat → Prop} {G G1 G' : Nat → Option Nat} {h h' : Heap}

def placeOf (E : Env) (fs : List (Nat × TypeId)) (f : Nat) : Option (Nat × Nat) :=
  match fs[f]? with
  | some x => (E.ty x.2).map fun j => (x.1, j.size)
  | none => none
theorem run_mapM_list {α β : Type} (f : α → Sem β) (g : α → β) (w : World) : ∀ (l : List α), (∀ x ∈ l, (f x).run E.P w = .ok (g x) w) → (l.mapM f).run E.P w = .ok (l.map g) w
  | [], _ => by simp
  | x :: l, h => by
    simp only [List.mapM_cons, Sem.run_bind, h x (List.mem_cons_self ..), Result.andThen_ok, run_mapM_list f g w l (fun y hy => h y (List.mem_cons_of_mem _ hy)), Sem.run_pure, List.map_cons]
theorem run_mapM {α β : Type} (f : α → Sem β) (g : α → β) (w : World) (l : Array α) (h : ∀ x ∈ l.toList, (f x).run E.P w = .ok (g x) w) : (l.mapM f).run E.P w = .ok (l.map g) w := by
  have e : l.mapM f = List.toArray <$> l.toList.mapM f := by
    have := List.mapM_toArray (l := l.toList) (f := f)
    simpa using this
  rw [e, Sem.run_map, run_mapM_list f g w l.toList h]
  simp only [Result.andThen_ok]
  congr 1
  apply Array.ext'
  simp
def evParts (E : Env) (a : AS) (parts : List (Nat × Operand)) : List (Nat × PV) := parts.map fun x => (x.1, a.eval E x.2)
theorem fill_congr {p q : Nat → Option (Nat × Nat)} : ∀ (l : List (Nat × Value)) (cs : Array Value), (∀ x ∈ l, p x.1 = q x.1) → Instr.fill p cs l = Instr.fill q cs l
  | [], _, _ => rfl
  | (i, v) :: l, cs, h => by
    simp only [Instr.fill]
    rw [h (i, v) (List.mem_cons_self ..)]
    cases q i with
    | none => rfl
    | some x =>
      obtain ⟨off, size⟩ := x
      dsimp only
      split
      · rfl
      · exact fill_congr l _ (fun y hy => h y (List.mem_cons_of_mem _ hy))
theorem parts_R {a : AS} {act : Act} (g : Good E w I G a.h) (r : RS E w I a act) (parts : List (Nat × Operand)) :
    ∀ (j : Nat) (x : Nat × PV) (v : Nat × Value), (evParts E a parts)[j]? = some x → (parts.map fun x => (x.1, act.eval x.2))[j]? = some v → R w I x.2 v.2 := by
  intro j x v hx hv
  unfold evParts at hx
  rw [List.getElem?_map] at hx hv
  cases e : parts[j]? with
  | none => rw [e] at hx; cases hx
  | some p =>
    rw [e] at hx hv
    simp only [Option.map_some, Option.some.injEq] at hx hv
    subst hx; subst hv
    exact r.eval g p.2
def okZero (i : TyI) : Bool := i.zero.all Value.oneCell'
theorem RL_zero (w : World) (I : Nat → Prop) {i : TyI} (hz : okZero i = true) : RL w I (i.zero.map ofVal) i.zero :=
  RL_ofVal w I _ (fun u hu => by unfold okZero at hz; rw [List.all_eq_true] at hz; exact hz u hu)
theorem Yld.build {a : AS} (t : TypeId) (parts : Array (Nat × Operand)) {i : TyI} {fs : List (Nat × TypeId)} {cs : List PV} (ht : E.ty t = some i) (hk : i.k = .struct fs) (hall : (fs.all fun x => (E.ty x.2).isSome) = true) (hz : okZero i = true)
    (hkn : known (evParts E a parts.toList) = true) (hf : pfill (placeOf E fs) (i.zero.map ofVal) (evParts E a parts.toList) = some cs) : Yld E a (.build t parts) (.agg cs) := by
  intro w I G act o ho g r
  have hd := ty_under ht
  rw [hk] at hd
  obtain ⟨fields, hd, hfs⟩ := hd
  obtain ⟨z, hzr, hzc⟩ := ty_zero ht w
  obtain ⟨us', hfill, hr⟩ := pfill_run (vs := (parts.toList.map fun x => (x.1, act.eval x.2))) hkn (by simp [evParts]) (parts_R g r parts.toList) (RL_zero w I hz) hf
  refine ⟨.agg us'.toArray, ?_, us', rfl, hr⟩
  have hm : (fields.mapM fun f => (do pure (f.offset, ← sizeOf f.type) : Sem (Nat × Nat))).run E.P w = .ok (fields.map fun f => (f.offset, E.P.cellsOf f.type)) w := by
    refine run_mapM _ _ w fields (fun f hf => ?_)
    have : (E.ty f.type).isSome = true := by
      rw [List.all_eq_true] at hall
      exact hall (f.offset, f.type) (by rw [← hfs]; exact List.mem_map.2 ⟨f, hf, rfl⟩)
    obtain ⟨j, hj⟩ := Option.isSome_iff_exists.1 this
    obtain ⟨inf, zz, h1, h2, _⟩ := ty_info hj
    simp [ty_sizeOf hj, Program.cellsOf, h1, h2]
  have hp : ∀ f, ((fields.map fun f => (f.offset, E.P.cellsOf f.type))[f]? : Option (Nat × Nat)) = placeOf E fs f := by
    intro f
    unfold placeOf
    rw [← hfs]
    simp only [Array.getElem?_map, List.getElem?_map, Array.getElem?_toList]
    cases e : fields[f]? with
    | none => rfl
    | some fl =>
      simp only [Option.map_some]
      have : (E.ty fl.type).isSome = true := by
        rw [List.all_eq_true] at hall
        exact hall (fl.offset, fl.type) (by rw [← hfs]; exact List.mem_map.2 ⟨fl, by have := Array.mem_of_getElem? e; simpa using this, rfl⟩)
      obtain ⟨j, hj⟩ := Option.isSome_iff_exists.1 this
      obtain ⟨inf, zz, h1, h2, _⟩ := ty_info hj
      simp [hj, Program.cellsOf, h1, h2]
  have hfill' : Instr.fill (fun f => ((fields.map fun f => (f.offset, E.P.cellsOf f.type))[f]?)) z.cells (parts.toList.map fun x => (x.1, act.eval x.2)) = some us'.toArray := by
    rw [fill_congr (q := placeOf E fs) _ _ (fun x _ => hp x.1), ← hfill]
    congr 1
    apply Array.ext'
    simp [hzc]
  simp only [execOp, ho, Instr.build, Sem.run_bind, hzr, Result.andThen_ok, run_underlying hd, hm]
  simp only [Array.toList_map]
  rw [show (List.map (fun x => match x with | (i, x) => (i, act.eval x)) parts.toList) = (parts.toList.map fun x => (x.1, act.eval x.2)) from rfl]
  rw [hfill']
  rfl

theorem Yld.buildArr {a : AS} (t : TypeId) (parts : Array (Nat × Operand)) {i ie : TyI} {n : Nat} {e : TypeId} {cs : List PV} (ht : E.ty t = some i) (hk : i.k = .array n e) (he : E.ty e = some ie) (hz : okZero i = true)
    (hkn : known (evParts E a parts.toList) = true) (hf : pfill (fun j => some (j * ie.size, ie.size)) (i.zero.map ofVal) (evParts E a parts.toList) = some cs) : Yld E a (.build t parts) (.agg cs) := by
  intro w I G act o ho g r
  have hd := ty_under ht
  rw [hk] at hd
  obtain ⟨z, hzr, hzc⟩ := ty_zero ht w
  obtain ⟨us', hfill, hr⟩ := pfill_run (vs := (parts.toList.map fun x => (x.1, act.eval x.2))) hkn (by simp [evParts]) (parts_R g r parts.toList) (RL_zero w I hz) hf
  refine ⟨.agg us'.toArray, ?_, us', rfl, hr⟩
  have hfill' : Instr.fill (fun j => some (j * ie.size, ie.size)) z.cells (parts.toList.map fun x => (x.1, act.eval x.2)) = some us'.toArray := by
    rw [← hfill]
    congr 1
    apply Array.ext'
    simp [hzc]
  simp only [execOp, ho, Instr.build, Sem.run_bind, hzr, Result.andThen_ok, run_underlying hd, ty_sizeOf he]
  simp only [Array.toList_map]
  rw [show (List.map (fun x => match x with | (i, x) => (i, act.eval x)) parts.toList) = (parts.toList.map fun x => (x.1, act.eval x.2)) from rfl]
  rw [hfill']
  rfl

theorem run_buildSlice {a : AS} {act : Act} (g : Good E w I G a.h) (r : RS E w I a act) (t : TypeId) (len : Nat) (parts : Array (Nat × Operand)) {i ie : TyI} {e : TypeId} {cs : List PV} (ht : E.ty t = some i) (hk : i.k = .slice e) (he : E.ty e = some ie) (hlen : len * ie.size ≤ 16777216) (hzl : ie.zero.length = ie.size) (hz : okZero ie = true)
    (hkn : known (evParts E a parts.toList) = true) (hf : pfill (fun i => some (i * ie.size, ie.size)) (List.replicate len (ie.zero.map ofVal)).flatten (evParts E a parts.toList) = some cs) :
    ∃ us, (Instr.buildSlice t len (parts.map fun (i, x) => (i, act.eval x))).run E.P w = .ok (.slice (some ⟨w.heap.size, 0, none⟩) len len) (w.alloc (.cells us.toArray e)) ∧ RL w I cs us := by
  have hd := ty_under ht
  rw [hk] at hd
  obtain ⟨z, hzr, hzc⟩ := ty_zero he w
  have hzRL : RL w I (List.replicate len (ie.zero.map ofVal)).flatten (List.replicate len ie.zero).flatten := by
    clear hf hlen
    induction len with
    | zero => simp [RL]
    | succ n ih =>
      simp only [List.replicate_succ, List.flatten_cons]
      exact (RL_zero w I hz).append ih
  obtain ⟨us', hfill, hr⟩ := pfill_run (vs := (parts.toList.map fun x => (x.1, act.eval x.2))) hkn (by simp [evParts]) (parts_R g r parts.toList) hzRL hf
  refine ⟨us', ?_, hr⟩
  have hsz : ¬ (len * ie.size > 2 ^ 24) := by omega
  have hcells : (Array.range (len * ie.size)).map (z.cells[· % z.cells.size]!) = (List.replicate len ie.zero).flatten.toArray := by
    have := zeroRow ie.zero len
    rw [hzl] at this
    have e2 : z.cells = ie.zero.toArray := by apply Array.ext'; simp [hzc]
    rw [e2, ← this, List.size_toArray, hzl]
  by_cases h0 : len * ie.size = 0
  · have hnil : (List.replicate len ie.zero).flatten = [] := by
      apply List.eq_nil_of_length_eq_zero
      simp [hzl, h0]
    rw [hnil] at hfill
    simp only [Instr.buildSlice, Sem.run_bind, run_underlying hd, Result.andThen_ok, ty_sizeOf he, h0, Sem.run_pure]
    simp only [Array.toList_map]
    rw [show (List.map (fun x => match x with | (i, x) => (i, act.eval x)) parts.toList) = (parts.toList.map fun x => (x.1, act.eval x.2)) from rfl]
    have e0 : ∀ (f : Nat → Value), Array.map f (Array.range 0) = #[] := fun f => by apply Array.ext'; simp
    simp [e0, hfill, run_newRow]
  · simp only [Instr.buildSlice, Sem.run_bind, run_underlying hd, Result.andThen_ok, ty_sizeOf he, h0, if_false, hsz, hzr, Sem.run_pure]
    simp only [Array.toList_map]
    rw [show (List.map (fun x => match x with | (i, x) => (i, act.eval x)) parts.toList) = (parts.toList.map fun x => (x.1, act.eval x.2)) from rfl]
    rw [hcells, hfill]
    simp [run_newRow]
theorem alloc_facts (w : World) (o : Obj) : (w.alloc o).heap.size = w.heap.size + 1 ∧ (∀ k, k < w.heap.size → (w.alloc o).heap[k]? = w.heap[k]?) ∧ (w.alloc o).os = w.os ∧ (w.alloc o).tape = w.tape ∧ (w.alloc o).output = w.output :=
  ⟨by simp, fun k hk => heap_alloc_lt w o k hk, rfl, rfl, rfl⟩
theorem Good.alloc_imm' (g : Good E w I G h) (o : Obj) : Good E (w.alloc o) (fun k => I k ∨ k = w.heap.size) G h ∧ Stp E.mono w I G h (w.alloc o) (fun k => I k ∨ k = w.heap.size) G h :=
  let ⟨h1, h2, h3, h4, h5⟩ := alloc_facts w o
  g.alloc_imm h1 h2 h3 h4 h5
theorem Good.alloc_own' (g : Good E w I G h) (o : Obj) {ob : AObj} (hob : RObj (w.alloc o) I G w.heap.size ob) : Good E (w.alloc o) I G (h.put w.heap.size ob) ∧ Stp E.mono w I G h (w.alloc o) I G (h.put w.heap.size ob) :=
  let ⟨h1, h2, h3, h4, h5⟩ := alloc_facts w o
  g.alloc_own h1 h2 h3 h4 h5 hob
theorem R1_row {w2 : World} {I2 : Nat → Prop} {us rest : List Value} {t : TypeId} {fz : Nat × Nat} {k : Nat} {sz n c : Nat} {xs : List (List PV)} (hh : w2.heap[k]? = some (.cells (us ++ rest).toArray t fz)) (hI : I2 k) (hr : RE w2 I2 sz xs us) (hn : xs.length = n) (hc : n ≤ c) (hm : c ≤ maxLen) :
    R1 w2 I2 (.list sz xs) (.slice (some ⟨k, 0, none⟩) n c) := by
  simp only [R1]
  refine ⟨_, c, us, by rw [hn], by omega, hm, hr, fun _ => ⟨_, rfl, hI, fun j u hj => ?_⟩⟩
  have e : (⟨k, 0, none⟩ : Addr).add j = ⟨k, j, none⟩ := by unfold Addr.add; split <;> simp_all
  rw [e]
  exact cell_of_cells hh hj
theorem YldW.buildSlice {a : AS} (t : TypeId) (len : Nat) (parts : Array (Nat × Operand)) {i ie : TyI} {e : TypeId} {cs : List PV} {xs : List (List PV)} (ht : E.ty t = some i) (hk : i.k = .slice e) (he : E.ty e = some ie) (hlen : len * ie.size ≤ 16777216) (hlm : len ≤ 16777216) (hzl : ie.zero.length = ie.size) (hz : okZero ie = true)
    (hkn : known (evParts E a parts.toList) = true) (hf : pfill (fun i => some (i * ie.size, ie.size)) (List.replicate len (ie.zero.map ofVal)).flatten (evParts E a parts.toList) = some cs) (hxs : cs = xs.flatten) (hw : ∀ x ∈ xs, x.length = ie.size) (hxl : xs.length = len) :
    YldW E a (.buildSlice t len parts) (.list ie.size xs) := by
  intro w I G act o ho g r
  obtain ⟨us, hrun, hr⟩ := run_buildSlice g r t len parts ht hk he hlen hzl hz hkn hf
  obtain ⟨g', s⟩ := g.alloc_imm' (.cells us.toArray e)
  refine ⟨_, _, _, by simp only [execOp, ho, Sem.run_bind, hrun]; rfl, g', s, ?_⟩
  have hr' := RL.keeps (s.keeps g) _ _ hr
  subst hxs
  exact R1_row (t := e) (rest := []) (fz := (0, 0)) (by rw [heap_alloc_at]; simp) (.inr rfl) (RE_of_flat hw hr') hxl (Nat.le_refl _) (by simp only [maxLen]; omega)

theorem YldW.buildSlice0 {a : AS} (t : TypeId) {i ie : TyI} {e : TypeId} (ht : E.ty t = some i) (hk : i.k = .slice e) (he : E.ty e = some ie) : YldW E a (.buildSlice t 0 #[]) .cap0 := by
  intro w I G act o ho g r
  have hd := ty_under ht
  rw [hk] at hd
  have hrun : (Instr.buildSlice t 0 #[]).run E.P w = .ok (.slice (some ⟨w.heap.size, 0, none⟩) 0 0) (w.alloc (.cells #[] e)) := by
    have e0 : ∀ (f : Nat → Value), Array.map f (Array.range 0) = #[] := fun f => by apply Array.ext'; simp
    simp [Instr.buildSlice, run_underlying hd, ty_sizeOf he, Instr.fill, run_newRow, e0]
  obtain ⟨g', s⟩ := g.alloc_imm' (.cells #[] e)
  refine ⟨_, _, _, by simp only [execOp, ho, Sem.run_bind, Array.map_empty, hrun]; rfl, g', s, ?_⟩
  show R1 _ _ _ _
  simp only [R1]
  exact ⟨_, rfl⟩

theorem SWO.alloc {ops : Array Oper} {o : Oper} {rest : List Oper} {Q : Exit → AS → Prop} {a : AS} (t : TypeId) (hop : o.op = .alloc t) {i : TyI} (ht : E.ty t = some i) (hz : okZero i = true) (hg : wantedA ops a o = some true) (hd : okDst a.n o.dst = true)
    (k : ∀ r, a.h r = none → SWO E ops rest Q { a.put o.dst (.val (.pointer (some ⟨r, 0, none⟩))) with h := a.h.put r (.cells t i.zero.length (i.zero.map ofVal)) }) : SWO E ops (o :: rest) Q a := by
  refine SWO.to hg hd fun w I G act g r => ?_
  obtain ⟨z, hzr, hzc⟩ := ty_zero ht w
  have hob : RObj (w.alloc (.cells z.cells t)) I G w.heap.size (.cells t i.zero.length (i.zero.map ofVal)) := by
    refine ⟨i.zero, [], ?_, RL_zero _ _ hz, by simp⟩
    rw [heap_alloc_at]
    congr 2
    apply Array.ext'
    simp [hzc]
  obtain ⟨g', s⟩ := g.alloc_own' _ hob
  refine ⟨_, .pointer (some ⟨w.heap.size, 0, none⟩), _, I, G, _, .val (.pointer (some ⟨w.heap.size, 0, none⟩)), ?_, .inl rfl, g', s, ⟨rfl, rfl⟩, k _ g.fresh⟩
  simp only [execOp, hop, Instr.alloc, Sem.run_bind, hzr, Result.andThen_ok]
  rfl
def known1 : PV → Bool
  | .any | .tuple _ => false
  | _ => true
theorem R_cells_run {x : PV} {v : Value} (h : R w I x v) (h1 : known1 x = true) : RL w I x.cells v.cells.toList :=
  h.cells (fun e => by subst e; cases h1) (fun c e => by subst e; cases h1)
theorem SWO.box {ops : Array Oper} {o : Oper} {rest : List Oper} {Q : Exit → AS → Prop} {a : AS} (t : TypeId) (x : Operand) (hop : o.op = .box t x) (h1 : known1 (a.eval E x) = true) (hg : wantedA ops a o = some true) (hd : okDst a.n o.dst = true)
    (k : ∀ r, a.h r = none → SWO E ops rest Q { a.put o.dst (.val (.pointer (some ⟨r, 0, none⟩))) with h := a.h.put r (.cells t (a.eval E x).cells.length (a.eval E x).cells) }) : SWO E ops (o :: rest) Q a := by
  refine SWO.to hg hd fun w I G act g r => ?_
  have hx := R_cells_run (r.eval g x) h1
  have hk2 : Keeps w I (w.alloc (.cells (act.eval x).cells t)) I := fun k hk => ⟨hk, heap_alloc_lt _ _ _ (g.imm k hk)⟩
  have hob : RObj (w.alloc (.cells (act.eval x).cells t)) I G w.heap.size (.cells t (a.eval E x).cells.length (a.eval E x).cells) := by
    refine ⟨(act.eval x).cells.toList, [], ?_, RL.keeps hk2 _ _ hx, by simp [← hx.length]⟩
    rw [heap_alloc_at]
    simp
  obtain ⟨g', s⟩ := g.alloc_own' _ hob
  refine ⟨_, .pointer (some ⟨w.heap.size, 0, none⟩), _, I, G, _, .val (.pointer (some ⟨w.heap.size, 0, none⟩)), ?_, .inl rfl, g', s, ⟨rfl, rfl⟩, k _ g.fresh⟩
  simp only [execOp, hop, Instr.box, Sem.run_bind]
  rfl
theorem RL.splice {cs xs : List PV} {us vs : List Value} (h : RL w I cs us) (hx : RL w I xs vs) (off : Nat) : RL w I (Lift.splice cs off xs) (us.take off ++ vs ++ us.drop (off + vs.length)) := by
  unfold Lift.splice
  rw [← hx.length]
  exact ((h.take off).append hx).append (h.drop _)
theorem SWO.store {ops : Array Oper} {o : Oper} {rest : List Oper} {Q : Exit → AS → Prop} {a : AS} (t : TypeId) (p x : Operand) (hop : o.op = .store t p x) {i : TyI} (ht : E.ty t = some i) {r0 o0 : Nat} {t' : TypeId} {size : Nat} {cs : List PV} (hp : a.eval E p = .val (.pointer (some ⟨r0, o0, none⟩))) (hr0 : a.h r0 = some (.cells t' size cs))
    (h1 : known1 (a.eval E x) = true) (hsz : (a.eval E x).cells.length = i.size) (hfit : o0 + i.size ≤ cs.length) (hg : wantedA ops a o = some true) (hd : o.dst = none)
    (k : SWO E ops rest Q { a with h := a.h.put r0 (.cells t' size (Lift.splice cs o0 (a.eval E x).cells)) }) : SWO E ops (o :: rest) Q a := by
  refine SWO.to hg (by rw [hd]; rfl) fun w I G act g r => ?_
  have hx := R_cells_run (r.eval g x) h1
  have hp' := r.eval g p
  rw [hp] at hp'
  have hp' := R_val hp'
  obtain ⟨_, _, _, us, rs, hh, hr, hl⟩ := g.own _ _ hr0
  have hxl := hx.length
  have hrl := hr.length
  have hst := run_storeCells_at E.P r0 o0 t' (act.eval x).cells.toList 0 (us ++ rs).toArray w hh (by simp; rw [Array.length_toList] at hxl; omega) hx.one
  simp only [Nat.add_zero] at hst
  let w2 := w.setRow r0 (us.take o0 ++ (act.eval x).cells.toList ++ us.drop (o0 + (act.eval x).cells.toList.length) ++ rs).toArray
  have hw2 : (storeVar t ⟨r0, o0, none⟩ (act.eval x)).run E.P w = .ok () w2 := by
    have e : (act.eval x).cells.size = i.size := by rw [← hsz, ← hxl, Array.length_toList]
    simp only [storeVar, Sem.run_bind, ty_sizeOf ht, Result.andThen_ok, e, ne_eq, not_true_eq_false, if_false]
    rw [hst]
    congr 2
    have h1 : o0 ≤ us.length := by omega
    have h2 : o0 + (act.eval x).cells.toList.length ≤ us.length := by omega
    rw [List.take_append_of_le_length h1, List.drop_append_of_le_length h2]
    simp
  have hob : RObj w2 I G r0 (.cells t' size (Lift.splice cs o0 (a.eval E x).cells)) := by
    have hk2 : Keeps w I w2 I := fun k hk => ⟨hk, setRow_other w r0 k _ (fun e => (g.own _ _ hr0).2.1 (e ▸ hk))⟩
    refine ⟨_, rs, setRow_heap w r0 _ _ t' (0, 0) hh, RL.keeps hk2 _ _ (hr.splice hx o0), ?_⟩
    simp only [List.length_append, List.length_take, List.length_drop]
    omega
  obtain ⟨g', s⟩ := g.write hr0 rfl (by simp [w2]) (fun k hk => setRow_other w r0 k _ hk) rfl rfl rfl hob
  refine ⟨.skip, undef, w2, I, G, _, .any, ?_, .inr ⟨rfl, rfl⟩, g', s, trivial, ?_⟩
  · simp only [execOp, hop, Sem.run_bind, Instr.storeAt, hp', Instr.sureAddr, Sem.run_pure, Result.andThen_ok, hw2]
  · rw [hd]; exact k
end
end Go.Proofs.YtpgnfbdkhakbdaaGreatDoor.Lift

namespace Go.Proofs.YtpgnfbdkhakbdaaGreatDoor.Lift
open Go Go.RowKit

inductive SEnd where
  | ret (v : PV)
  | panicked (c : List PanicEntry)

section
variable {E : Env} {w w1 w' : World} {I I1 I' : Nat → Prop} {G G1 G' : Nat → Option Nat} {h h' : Heap}

def CPost (E : Env) (w : World) (I : Nat → Prop) (G : Nat → Option Nat) (h : Heap) (Q : SEnd → Heap → Prop) (e : Ending) (w' : World) : Prop :=
  ∃ I' G' h', Good E w' I' G' h' ∧ Stp E.mono w I G h w' I' G' h' ∧ match e with
    | .returned v => ∃ p, R w' I' p v ∧ Q (.ret p) h'
    | .panicked c => Q (.panicked c) h'
    | .outgrown => False
def SCalls (E : Env) (f : FuncId) (args : List PV) (h : Heap) (Q : SEnd → Heap → Prop) : Prop :=
  (∃ fn c, E.P.funcs[f]? = some fn ∧ fn.body = some c ∧ (fn.name == "runtime.NumGoroutine") = false) ∧
  ∀ w I G vs, Good E w I G h → R0s w I args vs → Calls E.P f vs.toArray w (CPost E w I G h Q)
theorem SCalls.mono {f : FuncId} {args : List PV} {Q Q' : SEnd → Heap → Prop} (hc : SCalls E f args h Q) (hq : ∀ e h, Q e h → Q' e h) : SCalls E f args h Q' :=
  ⟨hc.1, fun w I G vs g r => (hc.2 w I G vs g r).mono fun e w' ⟨I', G', h', g', s, q⟩ => ⟨I', G', h', g', s, by
    cases e with
    | returned v => obtain ⟨p, hp, q⟩ := q; exact ⟨p, hp, hq _ _ q⟩
    | panicked c => exact hq _ _ q
    | outgrown => exact q⟩⟩

def enumA : Nat → List PV → List (Nat × PV)
  | _, [] => []
  | i, x :: xs => (i, x) :: enumA (i + 1) xs
theorem look_enumA : ∀ (xs : List PV) (i t : Nat), look (enumA i xs) t = if i ≤ t then xs[t - i]? else none
  | [], i, t => by simp [enumA, look]
  | x :: xs, i, t => by
    simp only [enumA, look, look_enumA xs (i + 1) t]
    by_cases e : i = t
    · subst e; simp
    · rw [if_neg e]
      by_cases hlt : i + 1 ≤ t
      · rw [if_pos hlt, if_pos (by omega), show t - i = (t - (i + 1)) + 1 by omega]
        simp
      · rw [if_neg hlt, if_neg (by omega)]
theorem R0s.length : ∀ {xs : List PV} {us : List Value}, R0s w I xs us → us.length = xs.length
  | [], _, h => by
    have h : _ = [] := h
    rw [h]; rfl
  | x :: xs, _, ⟨u, us', e, _, h2⟩ => by rw [e]; simp [h2.length]
theorem RS.init (hD : E.D = []) {args : List PV} {vs : List Value} {n : Nat} (hr : R0s w I args vs) (hl : args.length ≤ n) : RS E w I ⟨n, enumA 0 args, h⟩ { tmps := vs.toArray ++ Array.replicate (n - vs.toArray.size) undef, defers := [] } := by
  have hlen := hr.length
  refine ⟨hD.symm, by simp; omega, fun t => ?_⟩
  have hget : (⟨n, enumA 0 args, h⟩ : AS).get t = (args[t]?).getD .any := by
    unfold AS.get
    simp only [look_enumA, Nat.zero_le, if_true, Nat.sub_zero]
  rw [hget]
  cases e : args[t]? with
  | none => trivial
  | some x =>
    obtain ⟨u, hu, h1⟩ := hr.get e
    have hlt : t < vs.length := (List.getElem?_eq_some_iff.1 hu).1
    rw [Array.getD_eq_getD_getElem?, Array.getElem?_append_left (by simpa using hlt), List.getElem?_toArray, hu]
    exact R_of_R0 h1

def sres1 (E : Env) (a : AS) : ResultVar → Option PV
  | .tmp t => match a.get t with
    | .tuple _ => none
    | v => some v
  | .cell p t => match a.get p, E.ty t with
    | .val (.pointer (some ⟨r, off, none⟩)), some i => match a.h r with
      | some (.cells _ _ cs) => if off + i.size ≤ cs.length ∧ okOne i = true then some (valOf i.k.isAgg ((cs.drop off).take i.size)) else none
      | _ => none
    | _, _ => none
def sresL (E : Env) (a : AS) : List ResultVar → Option (List PV)
  | [] => some []
  | r :: rs => match sres1 E a r, sresL E a rs with
    | some v, some vs => some (v :: vs)
    | _, _ => none
def sres (E : Env) (a : AS) (rs : List ResultVar) : Option PV :=
  match sresL E a rs with
  | some [v] => some v
  | some vs => some (.tuple vs)
  | none => none
def runRes (tmps : Array Value) : ResultVar → Sem Value
  | .tmp t => pure (tmps.getD t undef)
  | .cell a t => do loadVar t (← asAddr (tmps.getD a undef))
theorem R0_of_R {x : PV} {v : Value} (hx : ∀ c, x ≠ .tuple c) (h : R w I x v) : R0 w I x v := by
  cases x <;> first | exact h | exact absurd rfl (hx _)
theorem sres1_run {a : AS} {act : Act} (g : Good E w I G a.h) (r : RS E w I a act) {rv : ResultVar} {p : PV} (hp : sres1 E a rv = some p) : ∃ u, (runRes act.tmps rv).run E.P w = .ok u w ∧ R0 w I p u := by
  cases rv with
  | tmp t =>
    simp only [sres1] at hp
    refine ⟨act.tmps.getD t undef, rfl, ?_⟩
    have h1 := r.slot t
    split at hp
    · cases hp
    · rename_i hne
      injection hp with hp; subst hp
      exact R0_of_R (fun c e => hne c e) h1
  | cell q t =>
    simp only [sres1] at hp
    split at hp
    · rename_i r0 off i he ht
      split at hp
      · rename_i t' size cs hr0
        split at hp
        · rename_i hc
          injection hp with hp; subst hp
          have h1 := r.slot q
          rw [he] at h1
          have h1 := R_val h1
          obtain ⟨_, _, _, us, rest, hh, hr, _⟩ := g.own _ _ hr0
          refine ⟨ofCells i.k.isAgg ((us.drop off).take i.size), ?_, ?_⟩
          · have hcell : ∀ j u, ((us.drop off).take i.size)[j]? = some u → w.cell? ((⟨r0, off, none⟩ : Addr).add j) = some u := by
              intro j u hj
              rw [List.getElem?_take] at hj
              split at hj
              · rw [List.getElem?_drop] at hj
                have e : (⟨r0, off, none⟩ : Addr).add j = ⟨r0, off + j, none⟩ := by unfold Addr.add; split <;> simp_all
                rw [e]
                exact cell_of_cells hh hj
              · cases hj
            have := run_loadVar_known (E := E) (w := w) ht (us := (us.drop off).take i.size) (by simp [hr.length]; omega) (okOne_spec hc.2) hcell
            simp [runRes, h1, asAddr, this]
          · have := R_valOf ((hr.drop off).take i.size) (a := i.k.isAgg) (fun hk => by have := okOne_spec hc.2 hk; simp; omega)
            refine R0_of_R (fun c e => ?_) this
            unfold valOf at e
            split at e
            · cases e
            · have h2 := (hr.drop off).take i.size
              cases hl : (cs.drop off).take i.size with
              | nil => rw [hl] at e; cases e
              | cons y ys =>
                rw [hl] at e h2
                simp only [List.getD_cons_zero] at e
                subst e
                simp only [RL] at h2
                obtain ⟨u, us', _, h3, _⟩ := h2
                simp only [R1] at h3
        · cases hp
      · cases hp
    · cases hp
theorem sresL_run {a : AS} {act : Act} (g : Good E w I G a.h) (r : RS E w I a act) : ∀ {rs : List ResultVar} {ps : List PV}, sresL E a rs = some ps → ∃ us, (rs.mapM (runRes act.tmps)).run E.P w = .ok us w ∧ R0s w I ps us ∧ us.length = rs.length
  | [], ps, hp => by
    simp only [sresL, Option.some.injEq] at hp
    subst hp
    exact ⟨[], by simp, rfl, rfl⟩
  | rv :: rs, ps, hp => by
    simp only [sresL] at hp
    split at hp
    · rename_i v vs h1 h2
      injection hp with hp; subst hp
      obtain ⟨u, hu, hr⟩ := sres1_run g r h1
      obtain ⟨us, hus, hrs, hl⟩ := sresL_run g r h2
      exact ⟨u :: us, by simp [List.mapM_cons, hu, hus], ⟨u, us, rfl, hr, hrs⟩, by simp [hl]⟩
    · cases hp
theorem results_eq (fn : Func) (tmps : Array Value) : results fn tmps = (do let vs ← fn.results.mapM (runRes tmps); pure (if h : vs.size = 1 then vs[0] else .tuple vs)) := by
  unfold results
  have e : (fun x : ResultVar => match x with | .tmp t => (pure (tmps.getD t undef) : Sem Value) | .cell a t => do loadVar t (← asAddr (tmps.getD a undef))) = runRes tmps := by
    funext rv
    cases rv <;> rfl
  rw [← e]
  rfl
theorem sres_run {a : AS} {act : Act} {fn : Func} {p : PV} (g : Good E w I G a.h) (r : RS E w I a act) (hp : sres E a fn.results.toList = some p) : ∃ u, (results fn act.tmps).run E.P w = .ok u w ∧ R w I p u := by
  unfold sres at hp
  cases hl : sresL E a fn.results.toList with
  | none => rw [hl] at hp; cases hp
  | some ps =>
    rw [hl] at hp
    obtain ⟨us, hus, hrs, hlen⟩ := sresL_run g r hl
    have e : fn.results.mapM (runRes act.tmps) = List.toArray <$> fn.results.toList.mapM (runRes act.tmps) := by
      have := List.mapM_toArray (l := fn.results.toList) (f := runRes act.tmps)
      simpa using this
    have hrun : (results fn act.tmps).run E.P w = .ok (if h : us.toArray.size = 1 then us.toArray[0] else .tuple us.toArray) w := by
      rw [results_eq, Sem.run_bind, e, Sem.run_map, hus]
      rfl
    have hl2 := hrs.length
    split at hp
    · rename_i v hv
      injection hv with hv
      subst hv
      injection hp with hp; subst hp
      obtain ⟨u, us', e1, h1, h2⟩ := hrs
      have h2 : us' = [] := h2
      subst h2
      subst e1
      exact ⟨u, hrun, R_of_R0 h1⟩
    · rename_i vs hne hv
      injection hv with hv
      subst hv
      injection hp with hp; subst hp
      have h1 : us.length ≠ 1 := by
        rw [hl2]
        intro h1
        match ps, h1 with
        | [v], _ => exact hne v rfl
      exact ⟨.tuple us.toArray, by rw [hrun, dif_neg (by simpa using h1)], us, rfl, hrs⟩
    · rename_i hv; cases hv

def HSub (h' h : Heap) : Prop := ∀ k, h' k = none ∨ h' k = h k
theorem HSub.refl (h : Heap) : HSub h h := fun _ => .inr rfl
theorem HSub.put {h' h : Heap} (hs : HSub h' h) {r : Nat} (hr : h' r = none) (o : AObj) : HSub h' (h.put r o) := fun k => by
  by_cases e : k = r
  · subst e; exact .inl hr
  · rw [Heap.put_ne _ _ e]; exact hs k
def subG (G : Nat → Option Nat) (h' : Heap) : Nat → Option Nat := fun k => match G k with
  | none => none
  | some r => match h' r with
    | none => none
    | some _ => some r
theorem subG_some {k r : Nat} (e : subG G h' k = some r) : G k = some r ∧ ∃ o, h' r = some o := by
  unfold subG at e
  split at e
  · cases e
  · rename_i r' hr
    split at e
    · cases e
    · rename_i o ho
      injection e with e
      subst e
      exact ⟨hr, o, ho⟩
theorem Good.sub (g : Good E w I G h) (hs : HSub h' h) : Good E w I (subG G h') h' ∧ Stp E.mono w I G h w I (subG G h') h' := by
  have up : ∀ r o, h' r = some o → h r = some o := fun r o e => by
    rcases hs r with e1 | e1
    · rw [e1] at e; cases e
    · rw [← e1]; exact e
  have dn : ∀ k, h k = none → h' k = none := fun k e => by
    rcases hs k with e1 | e1
    · exact e1
    · rw [e1]; exact e
  refine ⟨⟨fun r o e => ?_, fun k r e => ?_, g.imm, g.glob, g.inv⟩, ⟨rfl, rfl, rfl, Nat.le_refl _, fun k _ e1 e2 => ⟨rfl, dn k e1, by simp [subG, e2]⟩, fun _ h => h, fun _ _ _ _ h => h, fun _ => Nat.le_refl _⟩⟩
  · obtain ⟨h1, h2, h3, h4⟩ := g.own r o (up r o e)
    refine ⟨h1, h2, by simp [subG, h3], ?_⟩
    cases o with
    | cells t size cs => exact h4
    | iter s pos => exact h4
    | pmap o' => exact h4
    | miter m since seen => exact h4
    | gmap ka va es n => exact h4
    | bld T t bs =>
      rcases h4 with h4 | ⟨k, cap, rest, hk, h5⟩
      · exact .inl h4
      · exact .inr ⟨k, cap, rest, by simp [subG, hk, e], h5⟩
  · obtain ⟨e1, o, ho⟩ := subG_some e
    obtain ⟨h1, h2, h3, T, t, bs, h4⟩ := g.hid k r e1
    refine ⟨h1, h2, dn k h3, T, t, bs, ?_⟩
    rcases hs r with e2 | e2
    · rw [e2] at ho; cases ho
    · rw [e2]; exact h4

def HTo (E : Env) (h h' : Heap) : Prop := ∀ w I G, Good E w I G h → ∃ I' G', Good E w I' G' h' ∧ Stp E.mono w I G h w I' G' h'
theorem HTo.refl (E : Env) (h : Heap) : HTo E h h := fun _ I G g => ⟨I, G, g, .refl ..⟩
theorem HTo.trans {E : Env} {h h1 h2 : Heap} (a : HTo E h h1) (b : HTo E h1 h2) : HTo E h h2 := fun w I G g => by
  obtain ⟨I1, G1, g1, s1⟩ := a w I G g
  obtain ⟨I2, G2, g2, s2⟩ := b w I1 G1 g1
  exact ⟨I2, G2, g2, s1.trans s2⟩
theorem HSub.to {E : Env} {h h' : Heap} (s : HSub h' h) : HTo E h h' := fun _ I _ g => ⟨I, _, g.sub s⟩
def RPost (E : Env) (rs : List ResultVar) (Q : SEnd → Heap → Prop) : Exit → AS → Prop
  | .normal, a => ∃ p, sres E a rs = some p ∧ ∃ h', HTo E a.h h' ∧ Q (.ret p) h'
  | .ret, a => ∃ p, sres E a rs = some p ∧ ∃ h', HTo E a.h h' ∧ Q (.ret p) h'
  | .panic c, a => ∃ h', HTo E a.h h' ∧ Q (.panicked c) h'
  | _, _ => False
theorem SCalls.body {f : FuncId} {fn : Func} {c : Code} {args : List PV} {Q : SEnd → Heap → Prop} (hf : E.P.funcs[f]? = some fn) (hb : fn.body = some c) (hn : (fn.name == "runtime.NumGoroutine") = false) (hl : args.length ≤ fn.ntmps)
    (k : SW E c (RPost E fn.results.toList Q) ⟨fn.ntmps, enumA 0 args, h⟩) (hD : E.D = [] := by rfl) : SCalls E f args h Q := by
  refine ⟨⟨fn, c, hf, hb, hn⟩, fun w I G vs g r => ?_⟩
  refine calls_of_wp hf hb (wp_mono (k w I G _ g (RS.init hD r hl)) ?_)
  intro e act w' ⟨a', I', G', g', r', s', q⟩
  cases e with
  | normal =>
    obtain ⟨p, hp, h2, hs, q⟩ := q
    obtain ⟨u, hu, hr⟩ := sres_run g' r' hp
    obtain ⟨I2, G2, g2, s2⟩ := hs _ _ _ g'
    exact ⟨r'.defers.trans hD, u, hu, I2, G2, h2, g2, s'.trans s2, p, R.keeps (s2.keeps g') _ _ hr, q⟩
  | ret =>
    obtain ⟨p, hp, h2, hs, q⟩ := q
    obtain ⟨u, hu, hr⟩ := sres_run g' r' hp
    obtain ⟨I2, G2, g2, s2⟩ := hs _ _ _ g'
    exact ⟨r'.defers.trans hD, u, hu, I2, G2, h2, g2, s'.trans s2, p, R.keeps (s2.keeps g') _ _ hr, q⟩
  | panic c =>
    obtain ⟨h2, hs, q⟩ := q
    obtain ⟨I2, G2, g2, s2⟩ := hs _ _ _ g'
    exact ⟨r'.defers.trans hD, I2, G2, h2, g2, s'.trans s2, q⟩
  | exit id => exact q.elim
  | goto l => exact q.elim
  | outgrown => exact q.elim

def okArg : PV → Bool
  | .tuple _ => false
  | _ => true
theorem R0s_map {a : AS} {act : Act} (g : Good E w I G a.h) (r : RS E w I a act) : ∀ (xs : List Operand), (xs.all fun x => okArg (a.eval E x)) = true → R0s w I (xs.map (a.eval E)) (xs.map act.eval)
  | [], _ => rfl
  | x :: xs, h => by
    simp only [List.all_cons, Bool.and_eq_true] at h
    refine ⟨_, _, rfl, R0_of_R (fun c e => ?_) (r.eval g x), R0s_map g r xs h.2⟩
    rw [e] at h; cases h.1
theorem R0s.append : ∀ {xs ys : List PV} {us vs : List Value}, R0s w I xs us → R0s w I ys vs → R0s w I (xs ++ ys) (us ++ vs)
  | [], _, _, _, h, k => by
    have h : _ = [] := h
    rw [h]; exact k
  | x :: xs, _, _, vs, ⟨u, us', e, h1, h2⟩, k => by rw [e]; exact ⟨u, us' ++ vs, rfl, h1, h2.append k⟩
def okRaw : Value → Bool
  | .tuple _ | .agg _ => false
  | _ => true
theorem R0s_raw (w : World) (I : Nat → Prop) : ∀ (vs : List Value), vs.all okRaw = true → R0s w I (vs.map ofVal) vs
  | [], _ => rfl
  | v :: vs, h => by
    simp only [List.all_cons, Bool.and_eq_true] at h
    refine ⟨v, vs, rfl, ?_, R0s_raw w I vs h.2⟩
    have h1 := h.1
    cases v <;> simp [okRaw, ofVal, R0, R1, Value.oneCell'] at h1 ⊢
theorem SWO.call {ops : Array Oper} {o : Oper} {rest : List Oper} {Q : Exit → AS → Prop} {a : AS} (x : Operand) (xs : Array Operand) (ts : Array TypeId) (f : FuncId) (first caps : Array Value) {args : List PV} {Rq : SEnd → Heap → Prop}
    (hop : o.op = .call { callee := .value x, args := xs, argTypes := ts }) (hx : a.eval E x = .val (.func (.func f) first caps)) (hfirst : first.toList.all okRaw = true) (hcaps : caps.toList.all okRaw = true) (hok : (xs.toList.all fun x => okArg (a.eval E x)) = true)
    (hargs : first.toList.map ofVal ++ xs.toList.map (a.eval E) ++ caps.toList.map ofVal = args) (hc : SCalls E f args a.h Rq) (hg : wantedA ops a o = some true) (hd : okDst a.n o.dst = true)
    (k : ∀ p h', Rq (.ret p) h' → SWO E ops rest Q { a.put o.dst p with h := h' }) (kp : ∀ c h', Rq (.panicked c) h' → Q (.panic c) { a with h := h' }) : SWO E ops (o :: rest) Q a := by
  intro w I G act g r
  obtain ⟨⟨fn, c, hf, hb, hname⟩, hcalls⟩ := hc
  have hx' := r.eval g x
  rw [hx] at hx'
  have hx' := R_val hx'
  have hrs : R0s w I args (first.toList ++ xs.toList.map act.eval ++ caps.toList) := by
    rw [← hargs]
    exact ((R0s_raw w I _ hfirst).append (R0s_map g r _ hok)).append (R0s_raw w I _ hcaps)
  have hcall := hcalls w I G _ g hrs
  unfold wpList
  rw [if_pos (r.wanted hg)]
  refine .inl ?_
  unfold Oper.wp
  have hrun : (execOp act.eval o).run E.P w = .ok (.enter f (first.toList ++ xs.toList.map act.eval ++ caps.toList).toArray) w := by
    simp only [execOp, hop, resolve, hx', Deferred.ofValue, Sem.run_bind, Sem.run_pure, Result.andThen_ok, invoke]
    have hne : fn.name ≠ "runtime.NumGoroutine" := by simpa using hname
    have hcf : ∀ as, (callFunc f as).run E.P w = .ok (.enter f as) w := fun as => by simp [callFunc, hf, hne, hb]
    rw [hcf]
    congr 2
    apply Array.ext'
    simp
  rw [hrun, Oper.upon_enter]
  refine hcall.mono ?_
  intro e w' ⟨I', G', h', g', s, q⟩
  cases e with
  | returned v =>
    obtain ⟨p, hp, q⟩ := q
    have r1 := (r.keeps (s.keeps g)).put hd hp
    exact SWO.on (k p h' q) s g' ⟨r1.defers, r1.size, r1.slot⟩
  | panicked c =>
    have r1 := r.keeps (s.keeps g)
    exact ⟨{ a with h := h' }, I', G', g', ⟨r1.defers, r1.size, r1.slot⟩, s, kp c h' q⟩
  | outgrown => exact q.elim
end
end Go.Proofs.YtpgnfbdkhakbdaaGreatDoor.Lift
