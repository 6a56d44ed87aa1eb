/- Slices of whole numbers that came in, as lists. -/
import Derived.Test.YthlibdhjcjangaaLiftT
import Derived.OpenShut
set_option linter.unusedSimpArgs false
set_option linter.unusedVariables false
namespace Go.Proofs.Ythlibdhjcjangaa.Lift
open Go

theorem block_lt {w : World} {a : Addr} {v : Value} (h : w.cell? a = some v) : a.block < w.heap.size := by
  unfold World.cell? at h
  split at h
  · rename_i hb; exact (Array.getElem?_eq_some_iff.1 hb).1
  · cases h
/-- A slice of whole numbers in a world. -/
def IsRow (k : IntKind) (w : World) (a : Option Addr) (len cap : Nat) (zs : List Int) : Prop :=
  (a = none ∧ len = 0 ∧ cap = 0 ∧ zs = []) ∨
  ∃ x, a = some x ∧ len ≤ cap ∧ cap ≤ maxLen ∧ zs.length = cap ∧ (∀ i, i < zs.length → w.cell? (x.add i) = some (.int k (zs.getD i 0))) ∧ ∀ n ∈ zs, (Lit.int k n).wf = true
theorem RE_ofInts (w : World) (I : Nat → Prop) (k : IntKind) : ∀ zs : List Int, RE w I 1 (zs.map fun n => [.int k n]) (zs.map (.int k))
  | [] => rfl
  | z :: zs => ⟨[.int k z], zs.map (.int k), rfl, rfl, ⟨_, _, rfl, rfl, rfl⟩, RE_ofInts w I k zs⟩
theorem R0_ints {w : World} {k : IntKind} {a : Option Addr} {len cap : Nat} {zs : List Int} (h : IsRow k w a len cap zs) :
    R0 w (fun b => b < w.heap.size) (.list 1 ((zs.take len).map fun n => [.int k n])) (.slice a len cap) := by
  have hlen : (zs.take len).length = len := by
    rcases h with ⟨_, rfl, _, rfl⟩ | ⟨x, _, hl, _, hz, _⟩
    · rfl
    · rw [List.length_take]; omega
  refine ⟨a, cap, (zs.take len).map (.int k), by rw [List.length_map, hlen], ?_, ?_, RE_ofInts _ _ _ _, ?_⟩
  · rw [List.length_map, hlen]
    rcases h with ⟨_, rfl, rfl, _⟩ | ⟨x, _, hl, _⟩
    · exact Nat.le_refl _
    · exact hl
  · rcases h with ⟨_, rfl, rfl, _⟩ | ⟨x, _, _, hm, _⟩
    · exact Nat.zero_le _
    · exact hm
  · intro hne
    rcases h with ⟨_, rfl, _, rfl⟩ | ⟨x, hx, hl, _, hz, hc, _⟩
    · exact absurd rfl hne
    · have hpos : 0 < (zs.take len).length := by
        rcases Nat.eq_zero_or_pos (zs.take len).length with e | e
        · rw [List.length_eq_zero_iff] at e; rw [e] at hne; exact absurd rfl hne
        · exact e
      rw [hlen] at hpos
      have hb := block_lt (hc 0 (by omega))
      rw [add_block] at hb
      refine ⟨x, hx, hb, fun j u hj => ?_⟩
      rw [List.getElem?_map] at hj
      by_cases hjl : j < len
      · rw [List.getElem?_take_of_lt hjl, List.getElem?_eq_getElem (by omega), Option.map_some] at hj
        injection hj with hj
        rw [hc j (by omega), ← hj, List.getD_eq_getElem?_getD, List.getElem?_eq_getElem (by omega)]
        rfl
      · rw [List.getElem?_eq_none (by rw [hlen]; omega)] at hj
        cases hj
/-- The bytes of a slice of bytes. -/
def bytesOf (zs : List Int) (len : Nat) : List UInt8 := (zs.take len).map fun n => UInt8.ofNat n.toNat
theorem R0_bytes {w : World} {a : Option Addr} {len cap : Nat} {zs : List Int} (h : IsRow .u8 w a len cap zs) :
    R0 w (fun b => b < w.heap.size) (.list 1 (elB (bytesOf zs len))) (.slice a len cap) := by
  have e : elB (bytesOf zs len) = (zs.take len).map fun n => [.int .u8 n] := by
    unfold elB bytesOf
    rw [List.map_map]
    refine List.map_congr_left fun n hn => ?_
    have hw : (Lit.int .u8 n).wf = true := by
      rcases h with ⟨_, _, _, rfl⟩ | ⟨x, _, _, _, _, _, hwf⟩
      · simp at hn
      · exact hwf n (List.mem_of_mem_take hn)
    have hr : 0 ≤ n ∧ n < 256 := by
      have := hw
      simp [Lit.wf, IntKind.min, IntKind.max, IntKind.signed, IntKind.bits] at this
      omega
    show ([PV.int .u8 _] : List PV) = [PV.int .u8 _]
    congr 2
    show ((UInt8.ofNat n.toNat).toNat : Int) = n
    rw [UInt8.toNat_ofNat']
    omega
  rw [e]
  exact R0_ints h
/-- An array of whole numbers. -/
theorem open_arrInts {H : Type} {enc : TypeId × Value → H} {P : Program} {w : World} {base : Nat} {sp : Nat → Bool} {held : Bool} {t e : TypeId} {n : Nat} {q : IntKind} {v : Value} {d : DataW H} {ps : List MemPlace} {r : Reach} {b0 : Nat}
    (ht : P.underlying t = some (.array n e)) (he : P.underlying e = some (.int q)) (hc : P.cellsOf e = 1) (hct : P.cellsOf t = n) (hv : Value.okWide P w r b0 t v) (hd : DataW.Trod enc P w base sp held t v d ps) : ∃ ns : List Int, ns.length = n ∧ v = .agg (ns.map (Value.int q)).toArray := by
  obtain ⟨xs, rfl⟩ : ∃ xs, v = .agg xs := by
    simp only [Value.okWide, ht] at hv
    obtain ⟨cs, h1, _⟩ := hv
    exact ⟨cs, h1⟩
  obtain ⟨fuel, hf⟩ := hd
  obtain ⟨ys, m, rfl, _, hl, hyl, hall⟩ := Go.DataW.trod_array ht hf
  have hl : xs.toList.length = n := by rw [← hct, ← hl]; rfl
  refine ⟨xs.toList.map fun | .int _ n => n | _ => 0, by rw [List.length_map, hl], ?_⟩
  congr 1
  apply Array.ext'
  rw [List.map_map]
  apply List.ext_getElem?
  intro i
  rw [List.getElem?_map]
  by_cases hi : i < n
  · have h1 := hall i hi
    rw [hc, Nat.mul_one] at h1
    have hix : i < xs.toList.length := by omega
    have e1 : (((Value.agg xs).cells.toList.drop i).take 1) = [xs.toList[i]] := by
      show (xs.toList.drop i).take 1 = _
      rw [List.drop_eq_getElem_cons hix]
      rfl
    rw [e1, List.getElem?_eq_getElem (by omega)] at h1
    obtain ⟨a, ea, _⟩ := DataW.trod_int he h1
    injection ea with ea _
    rw [List.getElem?_eq_getElem hix, ea]
    rfl
  · rw [List.getElem?_eq_none (by omega)]
    rfl
end Go.Proofs.Ythlibdhjcjangaa.Lift
