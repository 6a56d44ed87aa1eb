/- Contracts of functions that the law reaches. -/
import Derived.Test.YthdmdeiaonkeoaaDoorT17
set_option linter.unusedSimpArgs false
set_option linter.unusedVariables false
namespace Go.Proofs.YthdmdeiaonkeoaaDoor
open Go Go.RowKit Go.Proofs.YthdmdeiaonkeoaaDoor Go.Proofs.YthdmdeiaonkeoaaDoor.Lift

/-! cpu.Run -/
def notIn (o : Option (Nat × Nat)) (r : Nat) : Prop := ∀ k c, o = some (k, c) → k ≠ r
theorem okO_put {o : Option (Nat × Nat)} {xs : List Int} {h : Heap} {r : Nat} {X : AObj} (ok : okO o xs (h.put r X)) : okO o xs h ∧ notIn o r := by
  cases o with
  | none => exact ⟨ok, fun _ _ e => by cases e⟩
  | some x =>
    obtain ⟨k, c⟩ := x
    obtain ⟨h1, h2, h3⟩ := ok
    have hk : k ≠ r := fun e => by subst e; rw [Heap.put_same] at h3; cases h3
    rw [Heap.put_ne _ _ hk] at h3
    exact ⟨⟨h1, h2, h3⟩, fun k' c' e => by injection e with e; injection e with e1 e2; rw [← e1]; exact hk⟩
theorem put_comm' {h : Heap} {r k : Nat} {X Y : AObj} (hk : k ≠ r) : (h.put r X).put k Y = (h.put k Y).put r X := by
  funext j
  by_cases e : j = r
  · subst e
    rw [Heap.put_same, Heap.put_ne _ _ (fun e => hk e.symm), Heap.put_same]
  · rw [Heap.put_ne _ _ e]
    by_cases e2 : j = k
    · subst e2; rw [Heap.put_same, Heap.put_same]
    · rw [Heap.put_ne _ _ e2, Heap.put_ne _ _ e2, Heap.put_ne _ _ e]
theorem omem_put {o : Option (Nat × Nat)} {xs : List Int} {h : Heap} {r : Nat} {X : AObj} (hn : notIn o r) : omem o xs (h.put r X) = (omem o xs h).put r X := by
  cases o with
  | none => rfl
  | some x => exact put_comm' (hn x.1 x.2 rfl)
theorem omem_none {o : Option (Nat × Nat)} {xs : List Int} {h : Heap} {r : Nat} (hh : omem o xs h r = none) : h r = none ∧ notIn o r := by
  cases o with
  | none => exact ⟨hh, fun _ _ e => by cases e⟩
  | some x =>
    obtain ⟨k, c⟩ := x
    have hh : (h.put k _) r = none := hh
    have hk : k ≠ r := fun e => by subst e; rw [Heap.put_same] at hh; cases hh
    rw [Heap.put_ne _ _ (fun e => hk e.symm)] at hh
    exact ⟨hh, fun k' c' e => by injection e with e; injection e with e1 e2; rw [← e1]; exact hk⟩
theorem none_omem {o : Option (Nat × Nat)} {xs : List Int} {h : Heap} {r : Nat} (hh : h r = none) (hn : notIn o r) : omem o xs h r = none := by
  cases o with
  | none => exact hh
  | some x => exact (Heap.put_ne _ _ (fun e => hn x.1 x.2 rfl e.symm)).trans hh
/-- The two memories. -/
def mems (o1 o2 : Option (Nat × Nat)) (s : Mach) (h : Heap) : Heap := omem o2 s.da (omem o1 s.fr h)
theorem mems_none {o1 o2 : Option (Nat × Nat)} {s : Mach} {h : Heap} {r : Nat} (hh : mems o1 o2 s h r = none) : h r = none ∧ notIn o1 r ∧ notIn o2 r := by
  obtain ⟨h1, h2⟩ := omem_none hh
  obtain ⟨h3, h4⟩ := omem_none h1
  exact ⟨h3, h4, h2⟩
theorem none_mems {o1 o2 : Option (Nat × Nat)} {s : Mach} {h : Heap} {r : Nat} (hh : h r = none ∧ notIn o1 r ∧ notIn o2 r) : mems o1 o2 s h r = none := none_omem (none_omem hh.1 hh.2.1) hh.2.2
/-- A state whose memories are one's own. -/
def ownV (o1 o2 : Option (Nat × Nat)) (n m : Nat) (s : Mach) : List PV := stC s.pc s.rg (.val (ovl o1 n)) (.val (ovl o2 m)) s.st
def stV (s : Mach) : List PV := stC s.pc s.rg (.list 1 (el64 s.fr)) (.list 1 (el64 s.da)) s.st
def RunQ (code : List Int) (s : Mach) (h : Heap) : SEnd → Heap → Prop := fun e h' => ∃ o1 o2 s' how n, runAll code s = (s', how, n) ∧ okO o1 s'.fr h ∧ okO o2 s'.da (omem o1 s'.fr h) ∧
  e = .ret (.tuple [.agg (ownV o1 o2 s'.fr.length s'.da.length s'), .int .i64 how, .int .i64 n]) ∧ h' = mems o1 o2 s' h
theorem RunQ_letGo {code : List Int} {s : Mach} {h : Heap} {f : FuncId} {args : List PV} (hc : SCalls env f args h (RunQ code s h)) :
    SCalls env f args h (Ret (.tuple [.agg (stV (runAll code s).1), .int .i64 (runAll code s).2.1, .int .i64 (runAll code s).2.2]) h) := by
  refine hc.letGo ?_
  rintro e h' ⟨o1, o2, s', how, n, e0, ok1, ok2, rfl, rfl⟩
  refine ⟨_, _, h, rfl, ?_, rfl, rfl⟩
  rw [e0]
  have a2 := (omem_own ok2).letGo (E := env) (.int .i64 s'.pc :: (s'.rg.map (PV.int .i64) ++ [.val (ovl o1 s'.fr.length)])) [.int .i64 s'.st] [.int .i64 how, .int .i64 n]
  have a1 := (omem_own ok1).letGo (E := env) (.int .i64 s'.pc :: s'.rg.map (PV.int .i64)) [.list 1 (el64 s'.da), .int .i64 s'.st] [.int .i64 how, .int .i64 n]
  have c2 : (PV.int .i64 s'.pc :: (s'.rg.map (PV.int .i64) ++ [PV.val (ovl o1 s'.fr.length)])) ++ PV.val (ovl o2 s'.da.length) :: [PV.int .i64 s'.st] = ownV o1 o2 s'.fr.length s'.da.length s' := by simp [ownV, stC]
  have c3 : (PV.int .i64 s'.pc :: (s'.rg.map (PV.int .i64) ++ [PV.val (ovl o1 s'.fr.length)])) ++ PV.list 1 (el64 s'.da) :: [PV.int .i64 s'.st] = (PV.int .i64 s'.pc :: s'.rg.map (PV.int .i64)) ++ PV.val (ovl o1 s'.fr.length) :: [PV.list 1 (el64 s'.da), PV.int .i64 s'.st] := by simp
  have c4 : (PV.int .i64 s'.pc :: s'.rg.map (PV.int .i64)) ++ PV.list 1 (el64 s'.fr) :: [PV.list 1 (el64 s'.da), PV.int .i64 s'.st] = stV s' := by simp [stV, stC]
  rw [c2, c3] at a2
  rw [c4] at a1
  exact a2.trans a1
theorem okO_len {o : Option (Nat × Nat)} {xs ys : List Int} {h : Heap} (ok : okO o xs h) (e : ys.length = xs.length) : okO o ys h := by
  cases o with
  | none =>
    obtain rfl : xs = [] := ok
    exact List.length_eq_zero_iff.1 e
  | some x => exact ⟨by rw [e]; exact ok.1, ok.2⟩
theorem okO_mem {o o1 : Option (Nat × Nat)} {xs ys zs : List Int} {h : Heap} (ok : okO o xs (omem o1 ys h)) : okO o xs (omem o1 zs h) := by
  cases o with
  | none => exact ok
  | some x =>
    obtain ⟨h1, h2, h3⟩ := ok
    obtain ⟨h4, h5⟩ := omem_none h3
    exact ⟨h1, h2, none_omem h4 h5⟩
theorem exitQ {code : List Int} {s b : Mach} {h : Heap} {o1 o2 : Option (Nat × Nat)} {how n : Int} (ok1 : okO o1 s.fr h) (ok2 : okO o2 s.da (omem o1 s.fr h)) (hfl : b.fr.length = s.fr.length) (hdl : b.da.length = s.da.length) (e : runAll code s = (b, how, n)) :
    RunQ code s h (.ret (.tuple [.agg (stC b.pc b.rg (.val (ovl o1 s.fr.length)) (.val (ovl o2 s.da.length)) b.st), .int .i64 how, .int .i64 n])) (mems o1 o2 b h) :=
  ⟨o1, o2, b, how, n, e, okO_len ok1 hfl, okO_len (okO_mem ok2) hdl, by rw [hfl, hdl]; rfl, rfl⟩
theorem hdrop {h' h : Heap} {k : Nat} {X : AObj} (hs : HSub h' h) (hk : h' k = none) : HSub h' (h.put k X) := fun j => by
  by_cases e : j = k
  · subst e; exact .inl hk
  · rw [Heap.put_ne _ _ e]; exact hs j
theorem hself (h : Heap) : HSub h h := fun _ => .inr rfl
theorem el64_getD {xs : List Int} {n : Nat} (h : n < xs.length) : (el64 xs).getD n [] = [.int .i64 (xs.getD n 0)] := by
  rw [List.getD_eq_getElem?_getD, List.getD_eq_getElem?_getD, el64, List.getElem?_map, List.getElem?_eq_getElem h]
  rfl
/-- Between an instruction and the end of its round. -/
def Mid (code : List Int) (h : Heap) (o1 o2 : Option (Nat × Nat)) (f1 d1 : PV) (r q m : Nat) (Z : AObj) (b : Mach) (a : AS) : Prop :=
  ∃ s1 : Mach, stepS code b = .go ⟨s1.pc, s1.rg.set 0 0, s1.fr, s1.da, b.st - 1⟩ ∧ s1.rg.length = 16 ∧ a.n = 199 ∧
    HTo env a.h ((((mems o1 o2 s1 h).put q Z).put r (.cells 45 20 (stC b.pc s1.rg f1 d1 b.st))).put m (.cells 76 2 [f1, d1])) ∧
    hasAll a [(0, .list 1 (el64 code)), (3, .val (.pointer (some ⟨r, 0, none⟩))), (4, .val (.pointer (some ⟨q, 0, none⟩))), (7, .val (.pointer (some ⟨m, 0, none⟩))), (10, .int .i64 s1.pc)]
theorem midHT {M : Heap} {q r m d : Nat} {Z R R' MM I : AObj} (hdn : M d = none) (hdm : ¬ d = m) (hdr : ¬ d = r) (hdq : ¬ d = q) (hrm : ¬ r = m) : HTo env (((((M.put q Z).put r R).put m MM).put d I).put r R') (((M.put q Z).put r R').put m MM) := by
  refine HSub.to fun j => ?_
  by_cases e0 : j = d
  · subst e0
    exact .inl (by rw [Heap.put_ne _ _ hdm, Heap.put_ne _ _ hdr, Heap.put_ne _ _ hdq]; exact hdn)
  · right
    by_cases e1 : j = r
    · subst e1
      rw [Heap.put_ne _ _ hrm, Heap.put_same, Heap.put_same]
    · by_cases e2 : j = m
      · subst e2
        rw [Heap.put_same, Heap.put_ne _ _ e1, Heap.put_ne _ _ e0, Heap.put_same]
      · rw [Heap.put_ne _ _ e2, Heap.put_ne _ _ e1, Heap.put_ne _ _ e1, Heap.put_ne _ _ e0, Heap.put_ne _ _ e2, Heap.put_ne _ _ e1]
theorem goInv {code : List Int} {s b b' : Mach} (hok : b.ok) (h0 : 0 < b.st) (e : stepS code b = .go b') (hfl : b.fr.length = s.fr.length) (hdl : b.da.length = s.da.length) (hrun : runS code b.st.toNat b = runAll code s) :
    (b'.ok ∧ b'.fr.length = s.fr.length ∧ b'.da.length = s.da.length ∧ runS code b'.st.toNat b' = runAll code s) ∧ b'.st.toNat < b.st.toNat := by
  obtain ⟨h1, h2, h3, h4⟩ := stepS_ok hok h0 e
  refine ⟨⟨h1, h3.trans hfl, h4.trans hdl, by rw [← runS_go hok h0 e, hrun]⟩, ?_⟩
  have := h1.st0
  omega
theorem high_cpu (i x : Int) : bitsOp .or .i64 (IntKind.i64.wrap (i * 2 ^ min 32 IntKind.i64.bits)) (IntKind.i64.wrap (IntKind.u32.wrap x)) = highS i x := by
  rw [show min 32 IntKind.i64.bits = 32 from rfl, show (2 : Int) ^ 32 = 4294967296 by rfl]
  have hu : IntKind.u32.wrap x = x % 4294967296 := by rw [IntKind.wrap_u32]
  rw [hu, w64 (n := x % 4294967296) (by omega) (by omega)]
  show IntKind.i64.wrap ((BitVec.ofInt 64 (IntKind.i64.wrap (i * 4294967296)) ||| BitVec.ofInt 64 (x % 4294967296)).toNat : Int) = _
  rw [BitVec.toNat_or, BitVec.toNat_ofInt, BitVec.toNat_ofInt, show ((2 ^ 64 : Nat) : Int) = 18446744073709551616 by rfl]
  have e1 : (IntKind.i64.wrap (i * 4294967296) % 18446744073709551616).toNat = 2 ^ 32 * (i % 4294967296).toNat := by
    rw [IntKind.wrap_i64]
    omega
  have e2 : (x % 4294967296 % 18446744073709551616).toNat = (x % 4294967296).toNat := by omega
  rw [e1, e2, ← Nat.two_pow_add_eq_or_of_lt (by omega)]
  unfold highS
  rw [IntKind.wrap_i64, IntKind.wrap_i64]
  omega
theorem ovl_slice {o : Option (Nat × Nat)} {xs : List Int} {h : Heap} (ok : okO o xs h) : ∃ A cap, ovl o xs.length = .slice A xs.length cap := by
  cases o with
  | none => obtain rfl : xs = [] := ok; exact ⟨none, 0, rfl⟩
  | some x => exact ⟨_, _, rfl⟩
theorem mem_fr {o1 o2 : Option (Nat × Nat)} {b : Mach} {h : Heap} (ok1 : okO o1 b.fr h) (ok2 : okO o2 b.da (omem o1 b.fr h)) (hp : b.fr ≠ []) :
    ∃ k cap, (∀ n, ovl o1 n = .slice (some ⟨k, 0, none⟩) n cap) ∧ mems o1 o2 b h k = some (.cells 2 cap (b.fr.map (PV.int .i64))) ∧ (∀ s1 : Mach, s1.da = b.da → mems o1 o2 s1 h = (mems o1 o2 b h).put k (.cells 2 cap (s1.fr.map (PV.int .i64)))) ∧ ∀ j, mems o1 o2 b h j = none → ¬ k = j := by
  cases o1 with
  | none => exact absurd ok1 hp
  | some x =>
    obtain ⟨k, cap⟩ := x
    have hn : notIn o2 k := fun k' c' e => by
      subst e
      intro ek
      subst ek
      have := ok2.2.2
      have this : (h.put k' _) k' = none := this
      rw [Heap.put_same] at this
      cases this
    have hc : ∀ s1 : Mach, mems (some (k, cap)) o2 s1 h = (omem o2 s1.da h).put k (.cells 2 cap (s1.fr.map (PV.int .i64))) := fun s1 => omem_put hn
    refine ⟨k, cap, fun _ => rfl, by rw [hc, Heap.put_same], fun s1 e => ?_, fun j hj e => ?_⟩
    · rw [hc, hc, Heap.put_put, e]
    · subst e
      rw [hc, Heap.put_same] at hj
      cases hj
theorem mem_da {o1 o2 : Option (Nat × Nat)} {b : Mach} {h : Heap} (ok2 : okO o2 b.da (omem o1 b.fr h)) (hp : b.da ≠ []) :
    ∃ k cap, (∀ n, ovl o2 n = .slice (some ⟨k, 0, none⟩) n cap) ∧ mems o1 o2 b h k = some (.cells 2 cap (b.da.map (PV.int .i64))) ∧ (∀ s1 : Mach, s1.fr = b.fr → mems o1 o2 s1 h = (mems o1 o2 b h).put k (.cells 2 cap (s1.da.map (PV.int .i64)))) ∧ ∀ j, mems o1 o2 b h j = none → ¬ k = j := by
  cases o2 with
  | none => exact absurd ok2 hp
  | some x =>
    obtain ⟨k, cap⟩ := x
    have hc : ∀ s1 : Mach, mems o1 (some (k, cap)) s1 h = (omem o1 s1.fr h).put k (.cells 2 cap (s1.da.map (PV.int .i64))) := fun s1 => rfl
    refine ⟨k, cap, fun _ => rfl, by rw [hc, Heap.put_same], fun s1 e => ?_, fun j hj e => ?_⟩
    · rw [hc, hc, Heap.put_put, e]
    · subst e
      rw [hc, Heap.put_same] at hj
      cases hj
theorem mget {xs : List Int} {n : Nat} (h : n < xs.length) : List.take 1 (List.drop n (List.map (PV.int .i64) xs)) = [.int .i64 (xs.getD n 0)] := by
  rw [List.drop_eq_getElem_cons (by rw [List.length_map]; exact h), List.getD_eq_getElem?_getD, List.getElem?_eq_getElem h]
  simp
theorem mset {xs : List Int} {n : Nat} {v : Int} (h : n < xs.length) : List.take n (List.map (PV.int .i64) xs) ++ [PV.int .i64 v] ++ List.drop (n + 1) (List.map (PV.int .i64) xs) = List.map (PV.int .i64) (xs.set n v) := by
  rw [List.set_eq_take_append_cons_drop, if_pos h]
  simp
theorem midHT0 {M : Heap} {q r m d : Nat} {Z R MM I : AObj} (hdn : M d = none) (hdm : ¬ d = m) (hdr : ¬ d = r) (hdq : ¬ d = q) : HTo env ((((M.put q Z).put r R).put m MM).put d I) (((M.put q Z).put r R).put m MM) := by
  refine HTo.put (.refl _ _) ?_ _
  rw [Heap.put_ne _ _ hdm, Heap.put_ne _ _ hdr, Heap.put_ne _ _ hdq]; exact hdn
theorem midHT2 {M : Heap} {q r m d k : Nat} {Z R MM I K : AObj} (hdn : M d = none) (hdm : ¬ d = m) (hdr : ¬ d = r) (hdq : ¬ d = q) (hkr : ¬ k = r) (hkq : ¬ k = q) (hkm : ¬ k = m) (hkd : ¬ k = d) :
    HTo env (((((M.put q Z).put r R).put m MM).put d I).put k K) ((((M.put k K).put q Z).put r R).put m MM) := by
  refine HSub.to fun j => ?_
  by_cases e0 : j = d
  · subst e0
    exact .inl (by rw [Heap.put_ne _ _ hdm, Heap.put_ne _ _ hdr, Heap.put_ne _ _ hdq, Heap.put_ne _ _ (fun e => hkd e.symm)]; exact hdn)
  · right
    by_cases e1 : j = k
    · subst e1
      rw [Heap.put_ne _ _ hkm, Heap.put_ne _ _ hkr, Heap.put_ne _ _ hkq, Heap.put_same, Heap.put_same]
    · rw [Heap.put_ne (k := j) _ _ e1, Heap.put_ne (k := j) _ _ e0]
      by_cases e2 : j = m
      · subst e2; rw [Heap.put_same, Heap.put_same]
      · rw [Heap.put_ne _ _ e2, Heap.put_ne _ _ e2]
        by_cases e3 : j = r
        · subst e3; rw [Heap.put_same, Heap.put_same]
        · rw [Heap.put_ne _ _ e3, Heap.put_ne _ _ e3]
          by_cases e4 : j = q
          · subst e4; rw [Heap.put_same, Heap.put_same]
          · rw [Heap.put_ne _ _ e4, Heap.put_ne _ _ e4, Heap.put_ne _ _ e1]
theorem mem4 : memS 4 = true := rfl
theorem mem5 : memS 5 = true := rfl
theorem mem6 : memS 6 = true := rfl
theorem mem7 : memS 7 = true := rfl
def zSt : List PV := stC 0 [0, 0, 0, 0, 0, 0, 0, 0, 0, 0, 0, 0, 0, 0, 0, 0] nilV nilV 0
theorem okO_at {o : Option (Nat × Nat)} {xs : List Int} {h h' : Heap} (ok : okO o xs h) (e : h = h') : okO o xs h' := by subst e; exact ok
end Go.Proofs.YthdmdeiaonkeoaaDoor
