/- Contracts of functions that the law reaches. -/
import Derived.Test.YtincpomenogppaaGreatDoorY1
import Derived.Test.YtincpomenogppaaGreatDoorTp
set_option linter.unusedSimpArgs false
set_option linter.unusedVariables false
namespace Go.Proofs.YtincpomenogppaaGreatDoor
open Go Go.RowKit Go.Proofs.YtincpomenogppaaGreatDoor Go.Proofs.YtincpomenogppaaGreatDoor.Lift
set_option maxRecDepth 100000

def okChars (ns : List Int) : Prop := ∀ c ∈ ns, isC c = true
theorem isC_iff {c : Int} : isC c = true ↔ 0 ≤ c ∧ c ≤ 1114111 ∧ (c < 55296 ∨ 57343 < c) := by
  unfold isC; rw [decide_eq_true_eq]
theorem runes_ok (l : List UInt8) : okChars (runesOf l) := by
  have key : ∀ (n i : Nat), ∀ c ∈ runesAt ⟨l.toArray⟩ n i, isC c = true := by
    intro n
    induction n with
    | zero => intro i c hc; simp [runesAt] at hc
    | succ n ih =>
      intro i c hc
      unfold runesAt at hc
      split at hc
      · rcases List.mem_cons.1 hc with rfl | hc
        · unfold Utf8.decode
          dsimp only
          rw [isC_iff]
          have b0 := ((⟨l.toArray⟩ : ByteArray).get! (i + 0)).toNat_lt
          split
          · dsimp only; omega
          · split
            · split
              · dsimp only; omega
              · simp only [Utf8.runeError]; omega
            · split
              · split
                · rename_i h
                  rw [Bool.and_eq_true] at h
                  have h2 := h.2
                  unfold Utf8.valid at h2
                  simp only [Bool.or_eq_true, Bool.and_eq_true, decide_eq_true_eq] at h2
                  dsimp only
                  omega
                · simp only [Utf8.runeError]; omega
              · split
                · split
                  · rename_i h
                    rw [Bool.and_eq_true] at h
                    have h2 := h.2
                    unfold Utf8.valid at h2
                    simp only [Bool.or_eq_true, Bool.and_eq_true, decide_eq_true_eq] at h2
                    dsimp only
                    omega
                  · simp only [Utf8.runeError]; omega
                · simp only [Utf8.runeError]; omega
        · exact ih _ c hc
      · cases hc
  exact key _ _
theorem u8of_nat (z : Int) : ((u8of z).toNat : Int) = z % 256 := by
  unfold u8of
  rw [UInt8.toNat_ofNat']
  omega
theorem u8of_cast {z : Int} {n : Nat} (h : z = (n : Int)) : u8of z = UInt8.ofNat n := by
  apply UInt8.toNat_inj.1
  have := u8of_nat z
  rw [UInt8.toNat_ofNat']
  omega
set_option maxRecDepth 1000000 in
theorem enc_law (c : Int) (hc : isC c = true) : encL c = encR c := by
  have h := isC_iff.1 hc
  obtain ⟨n, rfl⟩ : ∃ n : Nat, c = (n : Int) := ⟨c.toNat, by omega⟩
  have hv : Utf8.valid (n : Int) = true := by
    unfold Utf8.valid
    simp only [Bool.or_eq_true, Bool.and_eq_true, decide_eq_true_eq]
    omega
  unfold encL Utf8.encode encR
  rw [if_pos hv, Int.toNat_natCast]
  dsimp only
  by_cases h1 : n < 128
  · rw [if_pos h1, if_pos (by omega), u8of_cast rfl]
  · by_cases h2 : n < 2048
    · rw [if_neg h1, if_pos h2, if_neg (by omega), if_pos (by omega), Int.tdiv_eq_ediv_of_nonneg (by omega), Int.tmod_eq_emod_of_nonneg (by omega), u8of_cast (n := 0xC0 + n / 64) (by omega), u8of_cast (n := 0x80 + n % 64) (by omega)]
    · by_cases h3 : n < 65536
      · rw [if_neg h1, if_neg h2, if_pos h3, if_neg (by omega), if_neg (by omega), if_pos (by omega), Int.tdiv_eq_ediv_of_nonneg (a := (n : Int)) (by omega), Int.tdiv_eq_ediv_of_nonneg (a := (n : Int)) (by omega), Int.tmod_eq_emod_of_nonneg (by omega), Int.tmod_eq_emod_of_nonneg (by omega), u8of_cast (n := 0xE0 + n / 4096) (by omega), u8of_cast (n := 0x80 + n / 64 % 64) (by omega), u8of_cast (n := 0x80 + n % 64) (by omega)]
      · rw [if_neg h1, if_neg h2, if_neg h3, if_neg (by omega), if_neg (by omega), if_neg (by omega), Int.tdiv_eq_ediv_of_nonneg (a := (n : Int)) (by omega), Int.tdiv_eq_ediv_of_nonneg (a := (n : Int)) (by omega), Int.tdiv_eq_ediv_of_nonneg (a := (n : Int)) (by omega), Int.tmod_eq_emod_of_nonneg (by omega), Int.tmod_eq_emod_of_nonneg (by omega), Int.tmod_eq_emod_of_nonneg (by omega), u8of_cast (n := 0xF0 + n / 262144) (by omega), u8of_cast (n := 0x80 + n / 4096 % 64) (by omega), u8of_cast (n := 0x80 + n / 64 % 64) (by omega), u8of_cast (n := 0x80 + n % 64) (by omega)]
theorem enc_all (ns : List Int) (hv : okChars ns) : ns.flatMap encL = ns.flatMap encR := by
  induction ns with
  | nil => rfl
  | cons c ns ih =>
    rw [List.flatMap_cons, List.flatMap_cons, enc_law c (hv c (List.mem_cons_self ..)), ih (fun x hx => hv x (List.mem_cons_of_mem _ hx))]
theorem encR_le (c : Int) : (encR c).length ≤ 4 := by
  unfold encR
  split
  · simp
  · split
    · simp
    · split <;> simp
theorem okC_rng {ns : List Int} (hv : okChars ns) : ∀ c ∈ ns, 0 ≤ c ∧ c ≤ 2147483647 := fun c hc => by
  have := isC_iff.1 (hv c hc)
  omega
theorem encs_le (ns : List Int) : (ns.flatMap encR).length ≤ 4 * ns.length := by
  induction ns with
  | nil => exact Nat.le_refl _
  | cons c ns ih =>
    have := encR_le c
    rw [List.flatMap_cons, List.length_append, List.length_cons]; omega
theorem rev_next {xs : List Int} {k : Nat} (h : k < xs.length) : (xs.drop k).reverse.flatMap encR = (xs.drop (k + 1)).reverse.flatMap encR ++ encR xs[k] := by
  rw [List.drop_eq_getElem_cons h, List.reverse_cons, List.flatMap_append]
  simp
theorem mirror_one (l : List UInt8) : mirrorL l = (decodeS (cutS l [10]).length (cutS l [10])).reverse.flatMap encR ++ (if endB l = true then [10] else []) := by
  unfold mirrorL
  rw [decode_law, suffix_10, enc_all]
  intro c hc
  exact runes_ok _ c (List.mem_reverse.1 hc)
theorem elI_at {ns : List Int} {i : Nat} (h : i < ns.length) : (elI ns).getD i [] = [.int .i64 ns[i]] := by
  unfold elI
  rw [List.getD_eq_getElem?_getD, List.getElem?_map, List.getElem?_eq_getElem h]
  rfl
set_option maxHeartbeats 4000000 in
set_option maxRecDepth 100000 in
theorem RMirror_ok (s : List UInt8) (hs : s.length ≤ 1000000) (hb : (mirrorS s).length ≤ 100000000000000) (h : Heap) : SCalls env 19 [.str s] h (Ret (.str (mirrorS s)) h) := by
  refine SCalls.body Tryz.func19 rfl rfl (by simp [Tryz.ntmps19]) ?_
  have hll := linesOf_len s
  have hsh : ∀ l ∈ linesOf s, l.length ≤ 1000000 := fun l hl => by have := linesOf_short hl; omega
  refine SW.seq (SW.run [] _ ?_)
  simp only [wpC, Bool.false_eq_true, ↓reduceIte, wpS, stops, wantedA, okDst, Tryz.ntmps19, Nat.reduceLT, decide_true, step1, isOwnCall, hxOp, px, AS.eval, ofConst, ofVal, thenQ, AS.put, enumA, dropKey, reduceCtorEq, true_and]
  refine SW.seq (SW.run [eRLines] _ ?_)
  simp only [wpC, Bool.false_eq_true, ↓reduceIte, wpS, stops, wantedA, okDst, Nat.reduceLT, decide_true, step1, isOwnCall, hxOp, px, AS.eval, AS.get, Lift.look, Nat.succ_ne_zero, Option.getD_some, Specs.has, eRLines, Specs.hasO, Bool.or_false, Specs.hasH, Bool.not_true, AS.put, dropKey, Nat.reduceEqDiff, reduceCtorEq, pcall, okArg, ofConst, ofVal, List.all_cons, List.all_nil, Bool.and_true, Specs.at, List.map_cons, List.map_nil, sLines, hs, and_self, thenQ, true_and]
  unfold mirrorS at hb ⊢
  generalize linesOf s = ls at *
  refine SW.seq (SW.run [] _ ?_)
  simp only [wpC, Bool.false_eq_true, ↓reduceIte, wpS, stops, wantedA, okDst, Nat.reduceLT, decide_true, step1, isOwnCall, hxOp, px, AS.eval, ofConst, ofVal, thenQ, AS.put, dropKey, Nat.reduceEqDiff, reduceCtorEq, true_and]
  refine SW.seq (SW.seq (SW.run [] _ ?_))
  simp only [wpC, Bool.false_eq_true, ↓reduceIte, wpS, stops, wantedA, okDst, Nat.reduceLT, decide_true, step1, isOwnCall, hxOp, px, AS.eval, ofConst, ofVal, thenQ, AS.put, dropKey, Nat.reduceEqDiff, reduceCtorEq, true_and]
  refine SW.block (SW.loopK 44 (fun i : Nat => [(3, .list 1 (strL ls)), (4, .str ((ls.take i).map mirrorL).flatten), (5, .int .i64 (i : Nat))]) (fun _ => h) (fun i => i ≤ ls.length) (fun i => ls.length - i) 0 (Nat.zero_le _) ?_ ?_)
  · simp only [Has, hasAll, AS.get, Lift.look, Nat.reduceEqDiff, ↓reduceIte, Option.getD_some, List.take_zero, List.map_nil, List.flatten_nil, Int.cast_ofNat_Int, and_self]
  rintro i hi
  refine SW.seq (SW.run [] _ ?_)
  by_cases hlt : i < ls.length
  case neg =>
    rw [List.take_of_length_le (by omega)]
    simp only [wpC, mayStop, stops, isFlt, Specs.has, Specs.hasO, Bool.or_false, Specs.hasH, Bool.not_false, List.any_cons, List.any_nil, Bool.false_eq_true, ↓reduceIte, wpS, wantedA, okDst, Nat.reduceLT, decide_true, step1, isOwnCall, hxOp, px, AS.eval, AS.get, Lift.look, Nat.reduceEqDiff, Option.getD_some, AS.put, dropKey, pcall, ty43, plen, strL_len, okLen, and_self, isNilC, pbinP, pbinI, Int.ofNat_lt, hlt, decide_false, thenQ, isB, tmpOf, asB, inQ, true_and]
    refine SW.run [] _ ?_
    simp only [wpC, mayStop, stops, isFlt, Specs.has, Specs.hasO, Bool.or_false, Specs.hasH, Bool.not_false, List.any_cons, List.any_nil, Bool.false_eq_true, ↓reduceIte, wpS, wantedA, okDst, Nat.reduceLT, decide_true, step1, isOwnCall, hxOp, px, AS.eval, AS.get, Lift.look, Nat.reduceEqDiff, Option.getD_some, AS.put, dropKey, thenQ, RPost, sres, Tryz.results19, sresL, sres1, Option.some.injEq, Ret_fin, HTo_self, and_true, exists_eq_left', and_self]
  have hw : IntKind.i64.wrap ((i : Int) + 1) = ((i + 1 : Nat) : Int) := by rw [w64 (by omega) (by omega)]; rfl
  have hg := strL_at hlt
  have hl9 : ls[i].length ≤ 1000000000 := by have := hsh _ (List.getElem_mem hlt); omega
  have hl6 := hsh _ (List.getElem_mem hlt)
  have hcs := cut_short ls[i]
  have hc9 : (cutS ls[i] [10]).length ≤ 1000000000 := by omega
  have hm1 := mirror_one ls[i]
  have hnx := mirror_next hlt
  have hpre := mirror_pre ls (i + 1)
  rw [hnx, List.length_append] at hpre
  obtain ⟨acc, hacc⟩ : ∃ acc, acc = ((ls.take i).map mirrorL).flatten := ⟨_, rfl⟩
  rw [← hacc] at hnx hpre ⊢
  have hdl := decodeS_len (cutS ls[i] [10]).length (cutS ls[i] [10])
  have hrg : ∀ c ∈ decodeS (cutS ls[i] [10]).length (cutS ls[i] [10]), 0 ≤ c ∧ c ≤ 2147483647 := by
    rw [decode_law]; exact okC_rng (runes_ok _)
  obtain ⟨xs, hxs⟩ : ∃ xs, xs = decodeS (cutS ls[i] [10]).length (cutS ls[i] [10]) := ⟨_, rfl⟩
  simp only [wpC, mayStop, stops, isFlt, Specs.has, Specs.hasO, Bool.or_false, Specs.hasH, Bool.not_false, List.any_cons, List.any_nil, Bool.false_eq_true, ↓reduceIte, wpS, wantedA, okDst, Nat.reduceLT, decide_true, step1, isOwnCall, hxOp, px, AS.eval, AS.get, Lift.look, Nat.reduceEqDiff, Option.getD_some, AS.put, dropKey, pcall, ty43, plen, strL_len, okLen, and_self, isNilC, pbinP, pbinI, Int.ofNat_lt, hlt, thenQ, isB, tmpOf, asB, Has, hasAll, and_true, true_and]
  refine SW.seq (SW.block (SW.seq (SW.run [eContent, eDecode] _ ?_)))
  simp only [wpC, Bool.false_eq_true, ↓reduceIte, wpS, stops, wantedA, okDst, Nat.reduceLT, decide_true, step1, isOwnCall, hxOp, px, AS.eval, AS.get, Lift.look, Nat.reduceEqDiff, Option.getD_some, AS.put, dropKey, pindexAddr, ty43, ty9, ne_eq, Nat.succ_ne_zero, not_false_eq_true, Int.natCast_nonneg, Int.toNat_natCast, strL_len, hlt, and_self, hg, pload, okOne, TK.isAgg, beq_self_eq_true, Bool.or_true, List.length_cons, List.length_nil, Nat.zero_add, Nat.le_refl, Lift.valOf, List.take_succ_cons, List.take_nil, List.getD_cons_zero, Specs.has, eContent, PBad, Specs.hasO, Bool.or_false, Specs.hasH, Bool.not_true, pcall, okArg, ofConst, ofVal, List.all_cons, List.all_nil, Bool.and_true, Specs.at, List.map_cons, List.map_nil, hl9, eDecode, sDecode, hc9, thenQ, true_and]
  rw [← hxs] at hdl hrg hm1 ⊢
  have hwx : IntKind.i64.wrap (((xs.length : Nat) : Int) - 1) = ((xs.length : Nat) : Int) - 1 := w64 (by omega) (by omega)
  have hxl := encs_le xs
  refine SW.seq (SW.seq (SW.run [] _ ?_))
  simp only [wpC, Bool.false_eq_true, ↓reduceIte, wpS, stops, wantedA, okDst, Nat.reduceLT, decide_true, step1, isOwnCall, hxOp, px, AS.eval, AS.get, Lift.look, Option.getD_some, AS.put, dropKey, Nat.reduceEqDiff, pcall, ty115, plen, elI_len, okLen, and_self, isFlt, ty3, isNilC, pbinP, ofConst, ofVal, pbinI, hwx, thenQ, true_and]
  refine SW.block (SW.loopK 44 (fun m : Nat => [(3, .list 1 (strL ls)), (4, .str (acc ++ (xs.drop m).reverse.flatMap encR)), (5, .int .i64 (i : Nat)), (6, .list 1 (elI xs)), (7, .int .i64 ((m : Int) - 1))]) (fun _ => h) (fun m => m ≤ xs.length) (fun m => m) xs.length (Nat.le_refl _) ?_ ?_)
  · simp only [Has, hasAll, AS.get, Lift.look, Nat.reduceEqDiff, ↓reduceIte, Option.getD_some, and_self, and_true, true_and]
    rw [List.drop_length]
    simp
  rintro m hm
  have hml : ((xs.drop m).reverse.flatMap encR).length ≤ 4 * xs.length := by
    have := encs_le (xs.drop m).reverse
    rw [List.length_reverse, List.length_drop] at this
    omega
  cases m with
  | succ k =>
    have hk : k < xs.length := hm
    have hk1 : ((k + 1 : Nat) : Int) - 1 = ((k : Nat) : Int) := by omega
    have hk0 : (0 : Int) ≤ ((k : Nat) : Int) := by omega
    have hkl : ((k : Nat) : Int) < ((xs.length : Nat) : Int) := by omega
    have hgk := elI_at hk
    obtain ⟨r1, r2⟩ := hrg _ (List.getElem_mem hk)
    have he4 := encR_le xs[k]
    have hwk : IntKind.i64.wrap (((k : Nat) : Int) - 1) = ((k : Nat) : Int) - 1 := w64 (by omega) (by omega)
    rw [hk1]
    refine SW.seq (SW.run [] _ ?_)
    simp only [wpC, mayStop, stops, isFlt, Specs.has, Specs.hasO, Bool.or_false, Specs.hasH, Bool.not_false, List.any_cons, List.any_nil, Bool.false_eq_true, ↓reduceIte, wpS, wantedA, okDst, Nat.reduceLT, decide_true, step1, isOwnCall, hxOp, px, AS.eval, AS.get, Lift.look, Nat.reduceEqDiff, Option.getD_some, AS.put, dropKey, isNilC, pbinP, ofConst, ofVal, pbinI, hk0, thenQ, isB, tmpOf, asB, Has, hasAll, and_true, true_and]
    refine SW.seq (SW.block (SW.run [eEncode] _ ?_))
    have hap : (acc ++ (xs.drop (k + 1)).reverse.flatMap encR).length + (encR xs[k]).length ≤ 9223372036854775807 := by
      rw [List.length_append]
      omega
    simp only [wpC, Bool.false_eq_true, ↓reduceIte, wpS, stops, wantedA, okDst, Nat.reduceLT, decide_true, step1, isOwnCall, hxOp, px, AS.eval, AS.get, Lift.look, Nat.reduceEqDiff, Option.getD_some, AS.put, dropKey, pindexAddr, ty115, ty3, ne_eq, Nat.succ_ne_zero, not_false_eq_true, Int.natCast_nonneg, Int.toNat_natCast, elI_len, hk, and_self, hgk, pload, okOne, TK.isAgg, beq_self_eq_true, Bool.or_true, List.length_cons, List.length_nil, Nat.zero_add, Nat.le_refl, Lift.valOf, List.take_succ_cons, List.take_nil, List.getD_cons_zero, Specs.has, eEncode, Specs.hasO, Bool.or_false, Specs.hasH, Bool.not_true, pcall, okArg, ofConst, ofVal, List.all_cons, List.all_nil, Bool.and_true, Specs.at, List.map_cons, List.map_nil, sEncode, r1, r2, isFlt, ty9, isNilC, pbinP, pbinS, hap, inQ, thenQ, true_and]
    refine SW.run [] _ ?_
    simp only [wpC, Bool.false_eq_true, ↓reduceIte, wpS, stops, wantedA, okDst, Nat.reduceLT, decide_true, step1, isOwnCall, hxOp, px, AS.eval, AS.get, Lift.look, Nat.reduceEqDiff, Option.getD_some, isFlt, ty3, AS.put, dropKey, isNilC, pbinP, ofConst, ofVal, pbinI, hwk, thenQ, true_and]
    exact ⟨k, by omega, by omega, by rw [rev_next hk, List.append_assoc]; exact ⟨rfl, rfl⟩⟩
  | zero =>
    have h0 : ¬ ((0 : Int) ≤ ((0 : Nat) : Int) - 1) := by omega
    refine SW.seq (SW.run [] _ ?_)
    simp only [wpC, mayStop, stops, isFlt, Specs.has, Specs.hasO, Bool.or_false, Specs.hasH, Bool.not_false, List.any_cons, List.any_nil, Bool.false_eq_true, ↓reduceIte, wpS, wantedA, okDst, Nat.reduceLT, decide_true, step1, isOwnCall, hxOp, px, AS.eval, AS.get, Lift.look, Nat.reduceEqDiff, Int.cast_ofNat_Int, Int.reduceSub, Option.getD_some, AS.put, dropKey, List.drop_zero, isNilC, pbinP, ofConst, ofVal, pbinI, Int.reduceLE, decide_false, thenQ, isB, tmpOf, asB, inQ, true_and]
    obtain ⟨ms, hms⟩ : ∃ ms, ms = xs.reverse.flatMap encR := ⟨_, rfl⟩
    rw [← hms] at hm1 ⊢
    refine SW.seq (SW.run [eEnded] _ ?_)
    simp only [wpC, Bool.false_eq_true, ↓reduceIte, wpS, stops, wantedA, okDst, Nat.reduceLT, decide_true, step1, isOwnCall, hxOp, px, AS.eval, AS.get, Lift.look, Nat.reduceEqDiff, Option.getD_some, AS.put, dropKey, pindexAddr, ty43, ty9, ne_eq, Nat.succ_ne_zero, not_false_eq_true, Int.natCast_nonneg, Int.toNat_natCast, strL_len, hlt, and_self, hg, pload, okOne, TK.isAgg, beq_self_eq_true, Bool.or_true, List.length_cons, List.length_nil, Nat.zero_add, Nat.le_refl, Lift.valOf, List.take_succ_cons, List.take_nil, List.getD_cons_zero, Specs.has, eEnded, Specs.hasO, Bool.or_false, Specs.hasH, Bool.not_true, pcall, okArg, ofConst, ofVal, List.all_cons, List.all_nil, Bool.and_true, Specs.at, List.map_cons, List.map_nil, sLB, hl9, thenQ, true_and]
    cases he : endB ls[i]
    case true =>
      rw [he, if_pos rfl] at hm1
      have hle : (acc ++ ms).length + 1 ≤ 9223372036854775807 := by
        rw [List.length_append]
        rw [hm1, List.length_append] at hpre
        simp only [List.length_cons, List.length_nil] at hpre
        omega
      refine SW.run [] _ ?_
      simp only [wpC, isB, AS.get, Lift.look, tmpOf, ↓reduceIte, Option.getD_some, asB, Bool.false_eq_true, wpS, stops, wantedA, okDst, Nat.reduceLT, decide_true, step1, isOwnCall, hxOp, px, AS.eval, Nat.reduceEqDiff, isFlt, ty9, AS.put, dropKey, isNilC, pbinP, ofConst, ofVal, pbinS, List.length_cons, List.length_nil, Nat.zero_add, hle, inQ, thenQ, true_and]
      refine SW.run [] _ ?_
      simp only [wpC, Bool.false_eq_true, ↓reduceIte, wpS, stops, wantedA, okDst, Nat.reduceLT, decide_true, step1, isOwnCall, hxOp, px, AS.eval, AS.get, Lift.look, Nat.reduceEqDiff, Option.getD_some, isFlt, ty3, AS.put, dropKey, isNilC, pbinP, ofConst, ofVal, pbinI, hw, thenQ, true_and]
      exact ⟨i + 1, hlt, by omega, by rw [hnx, hm1, ← List.append_assoc]; exact ⟨rfl, rfl⟩⟩
    case false =>
      rw [he, if_neg (by simp), List.append_nil] at hm1
      refine SW.run [] _ ?_
      simp only [wpC, isB, AS.get, Lift.look, tmpOf, ↓reduceIte, Option.getD_some, asB, Bool.false_eq_true, inQ, thenQ, true_and]
      refine SW.run [] _ ?_
      simp only [wpC, Bool.false_eq_true, ↓reduceIte, wpS, stops, wantedA, okDst, Nat.reduceLT, decide_true, step1, isOwnCall, hxOp, px, AS.eval, AS.get, Lift.look, Nat.reduceEqDiff, Option.getD_some, isFlt, ty3, AS.put, dropKey, isNilC, pbinP, ofConst, ofVal, pbinI, hw, thenQ, true_and]
      exact ⟨i + 1, hlt, by omega, by rw [hnx, hm1]; exact ⟨rfl, rfl⟩⟩
def sRMirror : List PV → Prop × PV
  | [.str s] => (s.length ≤ 1000000 ∧ (mirrorS s).length ≤ 100000000000000, .str (mirrorS s))
  | _ => PBad
noncomputable def eRMirror : SpecE env := ⟨19, sRMirror, fun args h hc => by
  unfold sRMirror at hc ⊢
  split at hc
  · rename_i s; exact .inl (RMirror_ok s hc.1 hc.2 h)
  · exact hc.elim⟩
end Go.Proofs.YtincpomenogppaaGreatDoor
