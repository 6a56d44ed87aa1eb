/- Strings and slices cut; values put together; new memory. -/
import Derived.Test.YthlibdhjcjangaaLiftG
set_option linter.unusedSimpArgs false
set_option linter.unusedVariables false
namespace Go.Proofs.Ythlibdhjcjangaa.Lift
open Go Go.RowKit

section
variable {E : Env} {w w1 w' : World} {I I1 I' : Nat → Prop} {G G1 G' : Nat → Option Nat} {h h' : Heap}

/-! ### Cuts -/
def evB (E : Env) (a : AS) (x : Option Operand) (d : Nat) : Option Int :=
  match x with
  | none => some d
  | some x => match a.eval E x with
    | .int _ n => some n
    | _ => none
theorem run_sliceBound_in (k : IntKind) (i : Int) (y : Nat) (code : BoundsCode) (h0 : 0 ≤ i) (h1 : i ≤ y) : (Instr.sliceBound (.int k i) y code).run E.P w = .ok i.toNat w := by
  simp [Instr.sliceBound, run_asIntOf, h0, h1]
theorem run_bounds {a : AS} {act : Act} (g : Good E w I G a.h) (r : RS w I a act) {sl : Bool} {len cap : Nat} {lo hi : Option Operand} {L H : Int} (hlo : evB E a lo 0 = some L) (hhi : evB E a hi len = some H) (h0 : 0 ≤ L) (h1 : L ≤ H) (h2 : H ≤ cap) :
    (Instr.sliceBounds sl len cap (lo.map act.eval) (hi.map act.eval) none).run E.P w = .ok (L.toNat, H.toNat, cap) w := by
  have hL : ∀ H' C : Nat, (L : Int) ≤ H' → (match (lo.map act.eval) with | some v => (do let l ← Instr.sliceBound v H' .sliceB; pure (l, H', C) : Sem (Nat × Nat × Nat)) | none => (do let l ← pure 0; pure (l, H', C))).run E.P w = .ok (L.toNat, H', C) w := by
    intro H' C hh
    cases lo with
    | none => simp only [evB, Option.some.injEq] at hlo; simp only [Option.map_none, Sem.run_pure, Sem.run_bind, Result.andThen_ok]; congr 2; omega
    | some x =>
      simp only [evB] at hlo
      have := r.eval g x
      split at hlo
      · rename_i k n e
        injection hlo with hlo; subst hlo
        rw [e] at this
        simp only [Option.map_some]
        rw [R_int this, Sem.run_bind, run_sliceBound_in k n H' _ h0 hh]
        rfl
      · cases hlo
  cases hi with
  | none =>
    simp only [evB, Option.some.injEq] at hhi
    have hl := hL len cap (by omega)
    simp only [Instr.sliceBounds, Option.map_none, Sem.run_bind, Sem.run_pure, Result.andThen_ok, Option.isSome_none, Bool.false_eq_true, if_false]
    have eH : len = H.toNat := by omega
    rw [← eH]
    exact hl
  | some x =>
    simp only [evB] at hhi
    have hx := r.eval g x
    split at hhi
    · rename_i k n e
      injection hhi with hhi; subst hhi
      rw [e] at hx
      have hl := hL n.toNat cap (by omega)
      simp only [Instr.sliceBounds, Option.map_some, Sem.run_bind, Sem.run_pure, Result.andThen_ok, Option.isSome_none, Bool.false_eq_true, if_false]
      rw [R_int hx, run_sliceBound_in k n cap _ (by omega) h2]
      simp only [Result.andThen_ok]
      exact hl
    · cases hhi
theorem extract_mk (l : List UInt8) (a b : Nat) : (⟨l.toArray⟩ : ByteArray).extract a b = ⟨((l.take b).drop a).toArray⟩ := by
  apply ByteArray.ext
  simp [ByteArray.data_extract, List.extract_eq_take_drop, List.take_drop]
  by_cases hab : a ≤ b
  · rw [show a + (b - a) = b by omega]
  · rw [List.drop_eq_nil_of_le (by simp; omega), List.drop_eq_nil_of_le (by simp; omega)]
theorem Yld.slice_str {a : AS} (t : TypeId) (x : Operand) (lo hi : Option Operand) {i : TyI} {l : List UInt8} {L H : Int} (ht : E.ty t = some i) (hk : i.k = .str) (hx : a.eval E x = .str l) (hlo : evB E a lo 0 = some L) (hhi : evB E a hi l.length = some H) (h0 : 0 ≤ L) (h1 : L ≤ H) (h2 : H ≤ l.length) :
    Yld E a (.slice t x lo hi none) (.str ((l.take H.toNat).drop L.toNat)) := by
  intro w I G act o ho g r
  have hd := ty_under ht
  rw [hk] at hd
  have hx' := r.eval g x
  rw [hx] at hx'
  have hb := run_bounds (sl := false) (cap := l.length) g r hlo hhi h0 h1 h2
  refine ⟨.string ⟨((l.take H.toNat).drop L.toNat).toArray⟩, ?_, rfl⟩
  simp [execOp, ho, Instr.sliceAt, run_underlying hd, Instr.slice, R_str hx', size_mk, hb, extract_mk]
theorem Yld.slice_list {a : AS} (t : TypeId) (x : Operand) (lo hi : Option Operand) {i ie : TyI} {e : TypeId} {sz : Nat} {xs : List (List PV)} {L H : Int} (ht : E.ty t = some i) (hk : i.k = .slice e) (he : E.ty e = some ie) (hsz : ie.size = sz) (hx : a.eval E x = .list sz xs) (hlo : evB E a lo 0 = some L) (hhi : evB E a hi xs.length = some H) (h0 : 0 ≤ L) (h1 : L ≤ H) (h2 : H ≤ xs.length) :
    Yld E a (.slice t x lo hi none) (.list sz ((xs.take H.toNat).drop L.toNat)) := by
  intro w I G act o ho g r
  have hd := ty_under ht
  rw [hk] at hd
  have hx' := r.eval g x
  rw [hx] at hx'
  obtain ⟨A, cp, us, e1, hl, hm, hr, hat⟩ := R_list hx'
  have hb := run_bounds (sl := true) (cap := cp) g r hlo hhi h0 h1 (by omega)
  refine ⟨.slice (if cp = L.toNat then A else A.map (·.add (L.toNat * sz))) (H.toNat - L.toNat) (cp - L.toNat), ?_, ?_⟩
  · simp [execOp, ho, Instr.sliceAt, run_underlying hd, Instr.slice, e1, hb, ty_sizeOf he, hsz]
  · show R1 w I _ _
    simp only [R1]
    have hre := (hr.take H.toNat).drop L.toNat
    refine ⟨if cp = L.toNat then A else A.map (·.add (L.toNat * sz)), cp - L.toNat, _, by simp; omega, by simp; omega, by omega, hre, ?_⟩
    intro hne
    have hlen : L.toNat < H.toNat := by
      have := hre.length
      have hp := List.length_pos_iff.2 hne
      rw [this] at hp
      simp at hp
      have := Nat.pos_of_mul_pos_right hp
      omega
    have hne' : us ≠ [] := by
      intro hn; subst hn; simp at hne
    obtain ⟨ad, rfl, hI, hc⟩ := hat hne'
    rw [if_neg (by omega)]
    refine ⟨ad.add (L.toNat * sz), rfl, by rw [add_block]; exact hI, fun j u hj => ?_⟩
    rw [List.getElem?_drop, List.getElem?_take] at hj
    split at hj
    · have := hc _ u hj
      have e : (ad.add (L.toNat * sz)).add j = ad.add (L.toNat * sz + j) := by
        unfold Addr.add
        by_cases hn : L.toNat * sz = 0 <;> by_cases hj : j = 0 <;> simp [hn, hj, Nat.add_assoc]
      rw [e]; exact this
    · cases hj
theorem Yld.slice_val {a : AS} (t : TypeId) (x : Operand) (lo hi : Option Operand) {i ie : TyI} {e : TypeId} {r0 o0 n cp : Nat} {L H : Int} (ht : E.ty t = some i) (hk : i.k = .slice e) (he : E.ty e = some ie) (hx : a.eval E x = .val (.slice (some ⟨r0, o0, none⟩) n cp)) (hlo : evB E a lo 0 = some L) (hhi : evB E a hi n = some H) (h0 : 0 ≤ L) (h1 : L ≤ H) (h2 : H ≤ cp) :
    Yld E a (.slice t x lo hi none) (.val (.slice (some ⟨r0, o0 + (if cp = L.toNat then 0 else L.toNat * ie.size), none⟩) (H.toNat - L.toNat) (cp - L.toNat))) := by
  intro w I G act o ho g r
  have hd := ty_under ht
  rw [hk] at hd
  have hx' := r.eval g x
  rw [hx] at hx'
  have hb := run_bounds (sl := true) (cap := cp) g r hlo hhi h0 h1 h2
  refine ⟨_, ?_, rfl, rfl⟩
  have e : (⟨r0, o0, none⟩ : Addr).add (L.toNat * ie.size) = ⟨r0, o0 + L.toNat * ie.size, none⟩ := by unfold Addr.add; split <;> simp_all
  by_cases hc : cp = L.toNat
  · simp [execOp, ho, Instr.sliceAt, run_underlying hd, Instr.slice, R_val hx', hb, ty_sizeOf he, ← hc]
  · simp [execOp, ho, Instr.sliceAt, run_underlying hd, Instr.slice, R_val hx', hb, ty_sizeOf he, hc, e]
theorem Yld.slice_nil {a : AS} (t : TypeId) (x : Operand) (lo hi : Option Operand) {i ie : TyI} {e : TypeId} {L H : Int} (ht : E.ty t = some i) (hk : i.k = .slice e) (he : E.ty e = some ie) (hx : a.eval E x = .val (.slice none 0 0)) (hlo : evB E a lo 0 = some L) (hhi : evB E a hi 0 = some H) (h0 : 0 ≤ L) (h1 : L ≤ H) (h2 : H ≤ 0) :
    Yld E a (.slice t x lo hi none) (.val (.slice none 0 0)) := by
  intro w I G act o ho g r
  have hd := ty_under ht
  rw [hk] at hd
  have hx' := r.eval g x
  rw [hx] at hx'
  have hb := run_bounds (sl := true) (cap := 0) g r hlo hhi h0 h1 (by simpa using h2)
  refine ⟨.slice none 0 0, ?_, rfl, rfl⟩
  have e1 : L.toNat = 0 := by omega
  have e2 : H.toNat = 0 := by omega
  rw [e1, e2] at hb
  simp [execOp, ho, Instr.sliceAt, run_underlying hd, Instr.slice, R_val hx', hb, ty_sizeOf he]
theorem Yld.index_str {a : AS} (t : TypeId) (x j : Operand) {i : TyI} {l : List UInt8} {k : IntKind} {n : Int} {b : UInt8} (ht : E.ty t = some i) (hk : i.k = .str) (hx : a.eval E x = .str l) (hj : a.eval E j = .int k n) (h0 : 0 ≤ n) (hb : l[n.toNat]? = some b) : Yld E a (.index t x j) (.int .u8 b.toNat) := by
  intro w I G act o ho g r
  have hd := ty_under ht
  rw [hk] at hd
  have hx' := r.eval g x
  rw [hx] at hx'
  have hj' := r.eval g j
  rw [hj] at hj'
  refine ⟨.int .u8 b.toNat, ?_, rfl⟩
  have e : (⟨l.toArray⟩ : ByteArray)[n.toNat]? = some b := by
    have hlt := (List.getElem?_eq_some_iff.1 hb).1
    rw [List.getElem?_eq_getElem hlt] at hb
    injection hb with hb
    rw [getElem?_pos _ _ (by rw [size_mk]; exact hlt)]
    subst hb
    rfl
  simp [execOp, ho, Instr.index, run_underlying hd, R_str hx', R_int hj', run_asIntOf, h0, e]

/-! ### Structs put together -/
def splice (cs : List PV) (off : Nat) (xs : List PV) : List PV := cs.take off ++ xs ++ cs.drop (off + xs.length)
def pfill (place : Nat → Option (Nat × Nat)) (cells : List PV) : List (Nat × PV) → Option (List PV)
  | [] => some cells
  | (i, v) :: rest => match place i with
    | none => none
    | some (off, size) => if v.cells.length = size ∧ off + size ≤ cells.length then pfill place (splice cells off v.cells) rest else none
theorem foldl_set : ∀ (vs : List Value) (k off : Nat) (cs : List Value), off + k + vs.length ≤ cs.length →
    (vs.zipIdx k).foldl (fun (c : Array Value) (x : Value × Nat) => c.setIfInBounds (off + x.2) x.1) cs.toArray = (cs.take (off + k) ++ vs ++ cs.drop (off + k + vs.length)).toArray
  | [], k, off, cs, h => by simp
  | v :: vs, k, off, cs, h => by
    simp only [List.zipIdx_cons, List.foldl_cons, List.length_cons] at h ⊢
    rw [show (cs.toArray.setIfInBounds (off + k) v) = (cs.set (off + k) v).toArray by simp]
    rw [foldl_set vs (k + 1) off (cs.set (off + k) v) (by simp; omega)]
    congr 1
    rw [show off + (k + 1) = (off + k) + 1 by omega]
    rw [List.take_succ_eq_append_getElem (by simp; omega), List.take_set_of_le (by omega)]
    simp only [List.getElem_set_self]
    rw [List.drop_set_of_lt (by omega)]
    simp [Nat.add_assoc, Nat.add_comm, Nat.add_left_comm]
theorem R.cells {x : PV} {v : Value} (h : R w I x v) (h1 : x ≠ .any) (h2 : ∀ c, x ≠ .tuple c) : RL w I x.cells v.cells.toList := by
  cases x with
  | any => exact absurd rfl h1
  | tuple c => exact absurd rfl (h2 c)
  | agg cs => obtain ⟨us, rfl, h'⟩ := R_agg h; simpa [PV.cells, Value.cells] using h'
  | _ =>
    simp only [PV.cells, RL]
    refine ⟨v, [], ?_, h, rfl⟩
    have h1 : v.oneCell' = true := R1.one (w := w) (I := I) h
    cases v <;> simp [Value.oneCell', Value.cells] at h1 ⊢
def known (l : List (Nat × PV)) : Bool := l.all fun x => match x.2 with | .any | .tuple _ => false | _ => true
theorem pfill_run {place : Nat → Option (Nat × Nat)} : ∀ {parts : List (Nat × PV)} {vs : List (Nat × Value)} {cells cells' : List PV} {us : List Value}, known parts = true → parts.map (·.1) = vs.map (·.1) →
    (∀ (j : Nat) (x : Nat × PV) (v : Nat × Value), parts[j]? = some x → vs[j]? = some v → R w I x.2 v.2) → RL w I cells us → pfill place cells parts = some cells' → ∃ us', Instr.fill place us.toArray vs = some us'.toArray ∧ RL w I cells' us'
  | [], vs, cells, cells', us, _, hm, _, hr, hf => by
    cases vs with
    | cons => simp at hm
    | nil =>
      simp only [pfill, Option.some.injEq] at hf
      subst hf
      exact ⟨us, rfl, hr⟩
  | (i, x) :: parts, vs, cells, cells', us, hk, hm, hR, hr, hf => by
    cases vs with
    | nil => simp at hm
    | cons v vs =>
      obtain ⟨i', v⟩ := v
      simp only [List.map_cons, List.cons.injEq] at hm
      obtain ⟨rfl, hm⟩ := hm
      simp only [known, List.all_cons, Bool.and_eq_true] at hk
      simp only [pfill] at hf
      simp only [Instr.fill]
      cases hp : place i with
      | none => rw [hp] at hf; cases hf
      | some p =>
        obtain ⟨off, size⟩ := p
        rw [hp] at hf
        dsimp only at hf ⊢
        split at hf
        · rename_i hc
          have hx : R w I x v := hR 0 (i, x) (i, v) rfl rfl
          have hxc := hx.cells (by intro e; subst e; simp at hk) (by intro c e; subst e; simp at hk)
          have hl := hxc.length
          have hrl := hr.length
          have hsz : v.cells.size = size := by rw [← Array.length_toList, hl, hc.1]
          rw [if_neg (by rw [hsz]; simp [hrl]; omega)]
          have e1 : v.cells.zipIdx.foldl (fun cs (x : Value × Nat) => match x with | (c, j) => cs.setIfInBounds (off + j) c) us.toArray = (us.take off ++ v.cells.toList ++ us.drop (off + v.cells.toList.length)).toArray := by
            have := foldl_set v.cells.toList 0 off us (by rw [hl]; omega)
            simp only [Nat.add_zero] at this
            rw [← this, ← Array.foldl_toList]
            simp
          rw [e1]
          have hr' : RL w I (splice cells off x.cells) (us.take off ++ v.cells.toList ++ us.drop (off + v.cells.toList.length)) := by
            unfold splice
            rw [← hl]
            exact ((hr.take off).append hxc).append (hr.drop _)
          exact pfill_run (by simpa [known] using hk.2) hm (fun j y z hy hz => hR (j + 1) y z (by simpa using hy) (by simpa using hz)) hr' hf
        · cases hf
end
end Go.Proofs.Ythlibdhjcjangaa.Lift
