/- Contracts of functions that the law reaches. -/
import Derived.Test.YthdmdeiaonkeoaaDoorT21
set_option linter.unusedSimpArgs false
set_option linter.unusedVariables false
namespace Go.Proofs.YthdmdeiaonkeoaaDoor
open Go Go.RowKit Go.ChangeShapes Go.Proofs.YthdmdeiaonkeoaaDoor Go.Proofs.YthdmdeiaonkeoaaDoor.Lift

/-! States that came in -/
structure IsState (W : World) (cs : Array Value) (s : Mach) : Prop where
  rg : s.rg.length = 16
  st : -9223372036854775808 ≤ s.st ∧ s.st < 9223372036854775808
  rel : RL W (fun b => b < W.heap.size) (stV s) cs.toList
section
variable {H : Type} {enc : TypeId × Value → H} {P : Program} {w : World} {base : Nat} {sp : Nat → Bool} {held : Bool} {t e : TypeId} {n fuel : Nat} {cs : List Value} {x : DataW H × List MemPlace}
theorem arr_ints {q : IntKind} (ht : P.underlying t = some (.array n e)) (he : P.underlying e = some (.int q)) (hc : P.cellsOf e = 1) (hct : P.cellsOf t = n) (hd : DataW.trod enc P w base sp held fuel t cs = some x) :
    ∃ ns : List Int, ns.length = n ∧ cs = ns.map (Value.int q) := by
  obtain ⟨ys, m, rfl, hx, hl, hyl, hall⟩ := DataW.trod_array ht hd
  have hl : cs.length = n := by rw [hl, hct]
  refine ⟨cs.map fun | .int _ n => n | _ => 0, by rw [List.length_map, hl], ?_⟩
  rw [List.map_map]
  apply List.ext_getElem?
  intro i
  rw [List.getElem?_map]
  by_cases hi : i < n
  · have h1 := hall i hi
    rw [hc, Nat.mul_one] at h1
    have hic : i < cs.length := by omega
    have e1 : ((cs.drop i).take 1) = [cs[i]] := by
      rw [List.drop_eq_getElem_cons hic]
      rfl
    rw [e1, List.getElem?_eq_getElem (by omega)] at h1
    obtain ⟨a, ea, _⟩ := DataW.trod_int he h1
    injection ea with ea _
    rw [List.getElem?_eq_getElem hic, ea]
    rfl
  · rw [List.getElem?_eq_none (by omega)]
    rfl
theorem row_ints {k : IntKind} (ht : P.underlying t = some (.slice e)) (he : P.underlying e = some (.int k)) (hc : P.cellsOf e = 1) (h : DataW.trod enc P w base (fun _ => true) held fuel t cs = some x) :
    ∃ a len cap zs, cs = [.slice a len cap] ∧ IsRow k w a len cap zs := by
  rcases open_ints ht he hc h with ⟨rfl, _⟩ | ⟨x, l, c, zs, rfl, _, hl, hm, hz, _, hcell, hwz⟩
  · exact ⟨none, 0, 0, [], rfl, .inl ⟨rfl, rfl, rfl, rfl⟩⟩
  · exact ⟨_, l, c, zs, rfl, .inr ⟨_, rfl, hl, hm, by simpa using hz, hcell, hwz⟩⟩
end
theorem split20 {l : List Value} (h : l.length = 20) : l = (l.drop 0).take 1 ++ ((l.drop 1).take 16 ++ ((l.drop 17).take 1 ++ ((l.drop 18).take 1 ++ (l.drop 19).take 1))) := by
  have e : ∀ (a n b : Nat), a + n = b → l.drop a = (l.drop a).take n ++ l.drop b := fun a n b hb => by
    rw [← hb, ← List.drop_drop, List.take_append_drop]
  have e4 : (l.drop 19).take 1 = l.drop 19 := List.take_of_length_le (by rw [List.length_drop]; omega)
  rw [e4, ← e 18 1 19 rfl, ← e 17 1 18 rfl, ← e 1 16 17 rfl, ← e 0 1 1 rfl]
  rfl
set_option maxRecDepth 100000 in
theorem open_state {H : Type} {enc : TypeId × Value → H} {W : World} {held : Bool} {v : Value} {d : DataW H} {ps : List MemPlace} {r : Reach} {b0 base : Nat} (hv : Value.okWide Tryd.prog W r b0 45 v) (hd : DataW.Trod enc Tryd.prog W base (fun _ => true) held 45 v d ps) :
    ∃ (cs : Array Value) (s : Mach), v = .agg cs ∧ IsState W cs s := by
  obtain ⟨xs, rfl⟩ : ∃ xs, v = .agg xs := by
    simp only [Value.okWide, Tryd.underlying45] at hv
    obtain ⟨cs, h1, _⟩ := hv
    exact ⟨cs, h1⟩
  obtain ⟨fuel, hf⟩ := hd
  obtain ⟨ys, m, rfl, _, hl, hyl, hall⟩ := DataW.trod_struct Tryd.underlying45 hf
  have c45 : Tryd.prog.cellsOf 45 = 20 := by kernel_rfl
  have c3 : Tryd.prog.cellsOf 3 = 1 := by kernel_rfl
  have c2 : Tryd.prog.cellsOf 2 = 1 := by kernel_rfl
  have c42 : Tryd.prog.cellsOf 42 = 16 := by kernel_rfl
  have c43 : Tryd.prog.cellsOf 43 = 1 := by kernel_rfl
  have hl : xs.toList.length = 20 := by rw [← c45, ← hl]; rfl
  have hyl : ys.length = 5 := hyl
  have f0 : DataW.trod enc Tryd.prog W base (fun _ => true) held m 3 ((xs.toList.drop 0).take (Tryd.prog.cellsOf 3)) = ys[0]? := hall 0 _ rfl
  have f1 : DataW.trod enc Tryd.prog W base (fun _ => true) held m 42 ((xs.toList.drop 1).take (Tryd.prog.cellsOf 42)) = ys[1]? := hall 1 _ rfl
  have f2 : DataW.trod enc Tryd.prog W base (fun _ => true) held m 43 ((xs.toList.drop 17).take (Tryd.prog.cellsOf 43)) = ys[2]? := hall 2 _ rfl
  have f3 : DataW.trod enc Tryd.prog W base (fun _ => true) held m 43 ((xs.toList.drop 18).take (Tryd.prog.cellsOf 43)) = ys[3]? := hall 3 _ rfl
  have f4 : DataW.trod enc Tryd.prog W base (fun _ => true) held m 3 ((xs.toList.drop 19).take (Tryd.prog.cellsOf 3)) = ys[4]? := hall 4 _ rfl
  rw [List.getElem?_eq_getElem (by omega)] at f0 f1 f2 f3 f4
  rw [c3] at f0 f4
  rw [c42] at f1
  rw [c43] at f2 f3
  obtain ⟨pc, e0, _⟩ := DataW.trod_int Tryd.underlying3 f0
  obtain ⟨rg, hrg, e1⟩ := arr_ints Tryd.underlying42 Tryd.underlying2 c2 c42 f1
  obtain ⟨a1, l1, k1, z1, e2, w1⟩ := row_ints Tryd.underlying43 Tryd.underlying2 c2 f2
  obtain ⟨a2, l2, k2, z2, e3, w2⟩ := row_ints Tryd.underlying43 Tryd.underlying2 c2 f3
  obtain ⟨st, e4, _, hst⟩ := DataW.trod_int Tryd.underlying3 f4
  have hs := split20 hl
  have e0 : (xs.toList.drop 0).take 1 = [.int .i64 pc] := e0
  have e1 : (xs.toList.drop 1).take 16 = rg.map (Value.int .i64) := e1
  have e2 : (xs.toList.drop 17).take 1 = [.slice a1 l1 k1] := e2
  have e3 : (xs.toList.drop 18).take 1 = [.slice a2 l2 k2] := e3
  have e4 : (xs.toList.drop 19).take 1 = [.int .i64 st] := e4
  rw [e0, e1, e2, e3, e4] at hs
  refine ⟨xs, ⟨pc, rg, z1.take l1, z2.take l2, st⟩, rfl, hrg, i64_b hst, ?_⟩
  rw [hs]
  refine RL.append (xs := [.int .i64 pc]) (us := [.int .i64 pc]) ⟨_, _, rfl, rfl, rfl⟩ (RL.append (RL_ints _ _ _ rg) (RL.append (xs := [.list 1 (el64 (z1.take l1))]) (us := [.slice a1 l1 k1]) ⟨_, _, rfl, R0_ints w1, rfl⟩ (RL.append (xs := [.list 1 (el64 (z2.take l2))]) (us := [.slice a2 l2 k2]) ⟨_, _, rfl, R0_ints w2, rfl⟩ ⟨_, _, rfl, rfl, rfl⟩)))
theorem R0_state {W : World} {cs : Array Value} {s : Mach} (h : IsState W cs s) : R0 W (fun b => b < W.heap.size) (.agg (stV s)) (.agg cs) := ⟨cs.toList, by simp, h.rel⟩
theorem row_b {W : World} {a : Option Addr} {len cap : Nat} {zs : List Int} (h : IsRow .i64 W a len cap zs) : ∀ n ∈ zs.take len, -9223372036854775808 ≤ n ∧ n < 9223372036854775808 := fun n hn => by
  have hn := List.mem_of_mem_take hn
  rcases h with ⟨_, _, _, rfl⟩ | ⟨x, _, _, _, _, _, hw⟩
  · cases hn
  · exact i64_b (hw n hn)
theorem u8_b {n : Int} (h : (Lit.int .u8 n).wf = true) : 0 ≤ n ∧ n < 256 := by
  simp [Lit.wf, IntKind.min, IntKind.max, IntKind.signed, IntKind.bits] at h
  omega
end Go.Proofs.YthdmdeiaonkeoaaDoor
