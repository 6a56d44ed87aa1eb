/- Contracts of functions that the law reaches. -/
import Derived.Test.YthdmdeiaonkeoaaDoorT8
import Derived.Test.YthdmdeiaonkeoaaDoorT16
set_option linter.unusedSimpArgs false
set_option linter.unusedVariables false
namespace Go.Proofs.YthdmdeiaonkeoaaDoor
open Go Go.RowKit Go.Proofs.YthdmdeiaonkeoaaDoor Go.Proofs.YthdmdeiaonkeoaaDoor.Lift

/-! What a run does -/
structure Mach where
  pc : Int
  rg : List Int
  fr : List Int
  da : List Int
  st : Int
inductive Out where
  | go (s : Mach)
  | out (s : Mach) (how n : Int)
/-- The next instruction, with what was written into a register. -/
def Mach.wr (s : Mach) (a v : Int) : Mach := ⟨s.pc + 1, (s.rg.set a.toNat v).set 0 0, s.fr, s.da, s.st - 1⟩
def Mach.to (s : Mach) (pc : Int) : Mach := ⟨pc, s.rg.set 0 0, s.fr, s.da, s.st - 1⟩
def Mach.r (s : Mach) (a : Int) : Int := s.rg.getD a.toNat 0
def Mach.mem (s : Mach) (b : Int) : List Int := if b = 0 then s.fr else s.da
/-- A number is stored. -/
def Mach.sto (s : Mach) (b i v : Int) : Mach := ⟨s.pc + 1, s.rg.set 0 0, if b = 0 then s.fr.set i.toNat v else s.fr, if b = 0 then s.da else s.da.set i.toNat v, s.st - 1⟩
def execS (s : Mach) (o a b c i : Int) : Out :=
  if o = 0 then .out { s with st := s.st - 1 } 0 i
  else if 4 ≤ o ∧ o ≤ 7 then
    if i < 0 ∨ ((s.mem b).length : Int) ≤ i then .out s (if o = 4 ∨ o = 5 then 1 else 2) i
    else if o = 4 ∨ o = 6 then .go (s.wr a ((s.mem b).getD i.toNat 0))
    else .go (s.sto b i (s.r a))
  else if 24 ≤ o then .go (s.to (if holdS o (s.r b) (s.r c) = true then i else s.pc + 1))
  else .go (s.wr a (writeS o i (s.r b) (s.r c)))
def stepS (code : List Int) (s : Mach) : Out :=
  if s.pc < 0 ∨ (code.length : Int) ≤ s.pc then .out s 3 s.pc
  else if isW (code.getD s.pc.toNat 0) = true then execS s (oW (code.getD s.pc.toNat 0)) (aW (code.getD s.pc.toNat 0)) (bW (code.getD s.pc.toNat 0)) (cW (code.getD s.pc.toNat 0)) (immS (code.getD s.pc.toNat 0))
  else .out s 4 s.pc
def runS (code : List Int) : Nat → Mach → Mach × Int × Int
  | 0, s => (s, 5, 0)
  | f + 1, s => match stepS code s with
    | .go s' => runS code f s'
    | .out s' how n => (s', how, n)
/-- The state in which a run begins. -/
def Mach.begin (s : Mach) : Mach := ⟨s.pc, s.rg.set 0 0, s.fr, s.da, max 0 s.st⟩
def runAll (code : List Int) (s : Mach) : Mach × Int × Int := runS code (max 0 s.st).toNat s.begin
/-- How the machine stands, at a run's turn. -/
structure Mach.ok (s : Mach) : Prop where
  rg : s.rg.length = 16
  st0 : 0 ≤ s.st
  st1 : s.st < 9223372036854775808
theorem execS_ok {s : Mach} {o a b c i : Int} {s' : Mach} (h : s.ok) (h0 : 0 < s.st) (e : execS s o a b c i = .go s') : s'.ok ∧ s'.st = s.st - 1 ∧ s'.fr.length = s.fr.length ∧ s'.da.length = s.da.length := by
  have hw : ∀ a v, (s.wr a v).ok := fun a v => ⟨by simp [Mach.wr, h.rg], by show 0 ≤ s.st - 1; omega, by have := h.st1; show s.st - 1 < _; omega⟩
  have ht : ∀ p, (s.to p).ok := fun a => ⟨by simp [Mach.to, h.rg], by show 0 ≤ s.st - 1; omega, by have := h.st1; show s.st - 1 < _; omega⟩
  have hs : ∀ b i v, (s.sto b i v).ok := fun b i v => ⟨by simp [Mach.sto, h.rg], by show 0 ≤ s.st - 1; omega, by have := h.st1; show s.st - 1 < _; omega⟩
  unfold execS at e
  split at e
  · cases e
  · split at e
    · split at e
      · cases e
      · split at e
        · injection e with e; subst e; exact ⟨hw _ _, rfl, rfl, rfl⟩
        · injection e with e; subst e
          refine ⟨hs _ _ _, rfl, ?_, ?_⟩
          · show (if b = 0 then s.fr.set _ _ else s.fr).length = _; split <;> simp
          · show (if b = 0 then s.da else s.da.set _ _).length = _; split <;> simp
    · split at e
      · injection e with e; subst e; exact ⟨ht _, rfl, rfl, rfl⟩
      · injection e with e; subst e; exact ⟨hw _ _, rfl, rfl, rfl⟩
theorem stepS_ok {code : List Int} {s s' : Mach} (h : s.ok) (h0 : 0 < s.st) (e : stepS code s = .go s') : s'.ok ∧ s'.st = s.st - 1 ∧ s'.fr.length = s.fr.length ∧ s'.da.length = s.da.length := by
  unfold stepS at e
  split at e
  · cases e
  · split at e
    · exact execS_ok h h0 e
    · cases e
theorem runS_go {code : List Int} {s s' : Mach} (h : s.ok) (h0 : 0 < s.st) (e : stepS code s = .go s') : runS code s.st.toNat s = runS code s'.st.toNat s' := by
  have h1 := (stepS_ok h h0 e).2.1
  have : s.st.toNat = s'.st.toNat + 1 := by omega
  have key : ∀ f, runS code (f + 1) s = runS code f s' := fun f => by
    show (match stepS code s with | .go s2 => runS code f s2 | .out s2 how n => (s2, how, n)) = _
    rw [e]
  rw [this, key]
theorem runS_out {code : List Int} {s s' : Mach} {how n : Int} (h0 : 0 < s.st) (e : stepS code s = .out s' how n) : runS code s.st.toNat s = (s', how, n) := by
  obtain ⟨f, hf⟩ : ∃ f, s.st.toNat = f + 1 := ⟨s.st.toNat - 1, by omega⟩
  rw [hf]
  show (match stepS code s with | .go s' => runS code f s' | .out s' how n => (s', how, n)) = _
  rw [e]
theorem isW_spec {w : Int} (h : isW w = true) : inR (oW w) (aW w) (bW w) (cW w) ∧ (4 ≤ oW w ∧ oW w ≤ 7 → bW w = 0 ∨ bW w = 1) ∧ -2147483648 ≤ immS w ∧ immS w ≤ 2147483647 := by
  unfold isW at h
  rw [decide_eq_true_eq] at h
  obtain ⟨k1, k2, k3⟩ := checkS_zero h.1
  refine ⟨k1, fun ho => ?_, k2, k3⟩
  have hz := h.1
  unfold checkS at hz
  split at hz
  · cases hz
  · split at hz
    · cases hz
    · rename_i hout
      have hm : mostS (oW w) = 1 := by
        unfold mostS memS
        rw [if_pos]
        simp
        omega
      unfold outS at hout
      rw [hm] at hout
      obtain ⟨_, _, _, _, b0, _, _, _⟩ := k1
      omega

/-! Memories of one's own -/
def ovl (o : Option (Nat × Nat)) (n : Nat) : Value :=
  match o with
  | none => .slice none 0 0
  | some (k, cap) => .slice (some ⟨k, 0, none⟩) n cap
def omem (o : Option (Nat × Nat)) (xs : List Int) (h : Heap) : Heap :=
  match o with
  | none => h
  | some (k, cap) => h.put k (.cells 2 cap (xs.map (PV.int .i64)))
def okO (o : Option (Nat × Nat)) (xs : List Int) (h : Heap) : Prop :=
  match o with
  | none => xs = []
  | some (k, cap) => xs.length ≤ cap ∧ cap ≤ maxLen ∧ h k = none
theorem ovl_one (o : Option (Nat × Nat)) (n : Nat) : (ovl o n).oneCell' = true := by cases o <;> rfl
theorem own_omem {h H : Heap} {xs : List Int} {v : PV} (own : Own h 2 1 (el64 xs) v H) : ∃ o, okO o xs h ∧ v = .val (ovl o xs.length) ∧ H = omem o xs h := by
  rcases own with ⟨h1, h2, h3⟩ | ⟨k, cap, h1, h2, h3, h4, h5, _⟩
  · exact ⟨none, by cases xs with | nil => rfl | cons => simp [el64] at h2, h1, h3⟩
  · rw [el64_len] at h1 h2
    rw [el64_flat, Nat.mul_one] at h5
    exact ⟨some (k, cap), ⟨h2, h3, h4⟩, h1, h5⟩
theorem omem_own {h : Heap} {o : Option (Nat × Nat)} {xs : List Int} (ok : okO o xs h) : Own h 2 1 (el64 xs) (.val (ovl o xs.length)) (omem o xs h) := by
  cases o with
  | none => obtain rfl : xs = [] := ok; exact .inl ⟨rfl, rfl, rfl⟩
  | some x =>
    obtain ⟨k, cap⟩ := x
    obtain ⟨h1, h2, h3⟩ := ok
    refine .inr ⟨k, cap, by rw [el64_len]; rfl, by rw [el64_len]; exact h1, h2, h3, by rw [el64_flat, Nat.mul_one]; rfl, fun x hx => ?_⟩
    unfold el64 at hx
    rw [List.mem_map] at hx
    obtain ⟨n, _, rfl⟩ := hx
    rfl
/-! A state's cells -/
def stC (pc : Int) (rg : List Int) (f d : PV) (st : Int) : List PV := .int .i64 pc :: (rg.map (PV.int .i64) ++ [f, d, .int .i64 st])
section
variable {pc st v p : Int} {rg : List Int} {f d g : PV} (hr : rg.length = 16)
include hr
theorem stC_len : (stC pc rg f d st).length = 20 := by simp [stC, hr]
omit hr in
theorem stC_pc : List.take 1 (stC pc rg f d st) = [.int .i64 pc] := rfl
theorem stC_regs (k : Nat) : (stC pc rg f d st).drop (1 + k) = (rg.drop k).map (PV.int .i64) ++ (if k ≤ 16 then [f, d, .int .i64 st] else ([f, d, .int .i64 st] : List PV).drop (k - 16)) := by
  rw [show 1 + k = k + 1 by omega]
  show ((rg.map (PV.int .i64) ++ [f, d, .int .i64 st]).drop k) = _
  rw [List.drop_append, List.map_drop, List.length_map, hr]
  congr 1
  split
  · rename_i h; rw [show k - 16 = 0 by omega]; rfl
  · rfl
theorem stC_reg {a : Int} (h0 : 0 ≤ a) (h1 : a < 16) : List.take 1 (List.drop (1 + a.toNat) (stC pc rg f d st)) = [.int .i64 (rg.getD a.toNat 0)] := by
  rw [stC_regs hr, List.drop_eq_getElem_cons (by omega), List.getD_eq_getElem?_getD, List.getElem?_eq_getElem (by omega)]
  rfl
theorem stC_fr : List.take 1 (List.drop 17 (stC pc rg f d st)) = [f] := by
  rw [show 17 = 1 + 16 by rfl, stC_regs hr, List.drop_eq_nil_of_le (by omega)]
  rfl
theorem stC_da : List.take 1 (List.drop 18 (stC pc rg f d st)) = [d] := by
  rw [show 18 = 1 + 17 by rfl, stC_regs hr, List.drop_eq_nil_of_le (by omega)]
  rfl
theorem stC_st : List.take 1 (List.drop 19 (stC pc rg f d st)) = [.int .i64 st] := by
  rw [show 19 = 1 + 18 by rfl, stC_regs hr, List.drop_eq_nil_of_le (by omega)]
  rfl
theorem stC_all : List.take 20 (stC pc rg f d st) = stC pc rg f d st := List.take_of_length_le (by rw [stC_len hr]; omega)
theorem stC_none : List.drop 20 (stC pc rg f d st) = [] := List.drop_eq_nil_of_le (by rw [stC_len hr]; omega)
omit hr in
theorem stC_setpc : PV.int .i64 v :: List.drop 1 (stC pc rg f d st) = stC v rg f d st := rfl
theorem stC_setfr : List.take 17 (stC pc rg f d st) ++ [g] ++ List.drop 18 (stC pc rg f d st) = stC pc rg g d st := by
  rw [show 18 = 1 + 17 by rfl, stC_regs hr, List.drop_eq_nil_of_le (by omega)]
  show (PV.int .i64 pc :: List.take 16 (rg.map (PV.int .i64) ++ [f, d, .int .i64 st])) ++ [g] ++ _ = _
  rw [List.take_left' (by rw [List.length_map, hr])]
  simp [stC]
theorem stC_setda : List.take 18 (stC pc rg f d st) ++ [g] ++ List.drop 19 (stC pc rg f d st) = stC pc rg f g st := by
  rw [show 19 = 1 + 18 by rfl, stC_regs hr, List.drop_eq_nil_of_le (by omega)]
  show (PV.int .i64 pc :: List.take 17 (rg.map (PV.int .i64) ++ [f, d, .int .i64 st])) ++ [g] ++ _ = _
  rw [List.take_append, List.length_map, hr, List.take_of_length_le (by rw [List.length_map, hr]; omega)]
  simp [stC]
theorem stC_setst : List.take 19 (stC pc rg f d st) ++ [PV.int .i64 v] = stC pc rg f d v := by
  show (PV.int .i64 pc :: List.take 18 (rg.map (PV.int .i64) ++ [f, d, .int .i64 st])) ++ [PV.int .i64 v] = _
  rw [List.take_append, List.length_map, hr, List.take_of_length_le (by rw [List.length_map, hr]; omega)]
  simp [stC]
theorem stC_setreg {a : Int} (h0 : 0 ≤ a) (h1 : a < 16) : List.take (1 + a.toNat) (stC pc rg f d st) ++ [PV.int .i64 v] ++ List.drop (1 + a.toNat + 1) (stC pc rg f d st) = stC pc (rg.set a.toNat v) f d st := by
  rw [show 1 + a.toNat + 1 = 1 + (a.toNat + 1) by omega, stC_regs hr, if_pos (by omega), show 1 + a.toNat = a.toNat + 1 by omega]
  show (PV.int .i64 pc :: List.take a.toNat (rg.map (PV.int .i64) ++ [f, d, .int .i64 st])) ++ [PV.int .i64 v] ++ _ = _
  rw [List.take_append_of_le_length (by rw [List.length_map]; omega)]
  unfold stC
  rw [List.set_eq_take_append_cons_drop, if_pos (by omega)]
  simp
theorem stC_set0 : PV.int .i64 p :: PV.int .i64 v :: List.drop 2 (stC pc rg f d st) = stC p (rg.set 0 v) f d st := by
  cases rg with
  | nil => simp at hr
  | cons x rg => rfl
end
end Go.Proofs.YthdmdeiaonkeoaaDoor
