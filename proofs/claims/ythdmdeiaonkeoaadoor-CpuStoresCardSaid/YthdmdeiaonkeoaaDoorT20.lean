/- Contracts of functions that the law reaches. -/
import Derived.Test.YthdmdeiaonkeoaaDoorT19
set_option linter.unusedSimpArgs false
set_option linter.unusedVariables false
namespace Go.Proofs.YthdmdeiaonkeoaaDoor
open Go Go.RowKit Go.Proofs.YthdmdeiaonkeoaaDoor Go.Proofs.YthdmdeiaonkeoaaDoor.Lift

/-! A run in two parts -/
def Mach.plus (s : Mach) (k : Int) : Mach := ⟨s.pc, s.rg, s.fr, s.da, s.st + k⟩
def Out.plus (k : Int) : Out → Out
  | .go s => .go (s.plus k)
  | .out s how n => .out (s.plus k) how n
theorem exec_plus (s : Mach) (k o a b c i : Int) : execS (s.plus k) o a b c i = (execS s o a b c i).plus k := by
  have e : s.st + k - 1 = s.st - 1 + k := by omega
  have hw : ∀ a v, (s.plus k).wr a v = (s.wr a v).plus k := fun a v => by
    show Mach.mk _ _ _ _ (s.st + k - 1) = Mach.mk _ _ _ _ (s.st - 1 + k)
    rw [e]; rfl
  have ht : ∀ p, (s.plus k).to p = (s.to p).plus k := fun p => by
    show Mach.mk _ _ _ _ (s.st + k - 1) = Mach.mk _ _ _ _ (s.st - 1 + k)
    rw [e]; rfl
  have hs : ∀ b i v, (s.plus k).sto b i v = (s.sto b i v).plus k := fun b i v => by
    show Mach.mk _ _ _ _ (s.st + k - 1) = Mach.mk _ _ _ _ (s.st - 1 + k)
    rw [e]; rfl
  have hm : ∀ b, (s.plus k).mem b = s.mem b := fun _ => rfl
  have hr : ∀ b, (s.plus k).r b = s.r b := fun _ => rfl
  have hp : (s.plus k).pc = s.pc := rfl
  unfold execS
  by_cases h0 : o = 0
  · rw [if_pos h0, if_pos h0]
    show Out.out (Mach.mk _ _ _ _ (s.st + k - 1)) 0 i = Out.out (Mach.mk _ _ _ _ (s.st - 1 + k)) 0 i
    rw [e]; rfl
  rw [if_neg h0, if_neg h0]
  by_cases h1 : 4 ≤ o ∧ o ≤ 7
  · rw [if_pos h1, if_pos h1, hm]
    by_cases h2 : i < 0 ∨ ((s.mem b).length : Int) ≤ i
    · rw [if_pos h2, if_pos h2]; rfl
    · rw [if_neg h2, if_neg h2]
      by_cases h3 : o = 4 ∨ o = 6
      · rw [if_pos h3, if_pos h3, hw]; rfl
      · rw [if_neg h3, if_neg h3, hs, hr]; rfl
  · rw [if_neg h1, if_neg h1]
    by_cases h2 : 24 ≤ o
    · rw [if_pos h2, if_pos h2, ht, hr, hr, hp]; rfl
    · rw [if_neg h2, if_neg h2, hw, hr, hr]; rfl
theorem step_plus (code : List Int) (s : Mach) (k : Int) : stepS code (s.plus k) = (stepS code s).plus k := by
  have hp : (s.plus k).pc = s.pc := rfl
  unfold stepS
  rw [hp]
  by_cases h0 : s.pc < 0 ∨ (code.length : Int) ≤ s.pc
  · rw [if_pos h0, if_pos h0]; rfl
  rw [if_neg h0, if_neg h0]
  by_cases h1 : isW (code.getD s.pc.toNat 0) = true
  · rw [if_pos h1, if_pos h1, exec_plus]
  · rw [if_neg h1, if_neg h1]; rfl
theorem exec_out {s s' : Mach} {o a b c i how n : Int} (e : execS s o a b c i = .out s' how n) : how ≠ 5 ∧ s'.rg = s.rg ∧ s'.fr = s.fr ∧ s'.da = s.da ∧ (s'.st = s.st ∨ s'.st = s.st - 1) := by
  unfold execS at e
  split at e
  · injection e with e1 e2 e3; subst e1; subst e2; exact ⟨by decide, rfl, rfl, rfl, .inr rfl⟩
  · split at e
    · split at e
      · injection e with e1 e2 e3; subst e1; subst e2; exact ⟨by split <;> decide, rfl, rfl, rfl, .inl rfl⟩
      · split at e <;> cases e
    · split at e <;> cases e
theorem step_out {code : List Int} {s s' : Mach} {how n : Int} (e : stepS code s = .out s' how n) : how ≠ 5 ∧ s'.rg = s.rg ∧ s'.fr = s.fr ∧ s'.da = s.da ∧ (s'.st = s.st ∨ s'.st = s.st - 1) := by
  unfold stepS at e
  split at e
  · injection e with e1 e2 e3; subst e1; subst e2; exact ⟨by decide, rfl, rfl, rfl, .inl rfl⟩
  · split at e
    · exact exec_out e
    · injection e with e1 e2 e3; subst e1; subst e2; exact ⟨by decide, rfl, rfl, rfl, .inl rfl⟩
theorem exec_z {s s' : Mach} {o a b c i : Int} (e : execS s o a b c i = .go s') : s'.rg.set 0 0 = s'.rg := by
  have key : ∀ l : List Int, (l.set 0 0).set 0 0 = l.set 0 0 := fun l => by cases l <;> rfl
  unfold execS at e
  split at e
  · cases e
  · split at e
    · split at e
      · cases e
      · split at e <;> (injection e with e; subst e; exact key _)
    · split at e <;> (injection e with e; subst e; exact key _)
theorem step_z {code : List Int} {s s' : Mach} (e : stepS code s = .go s') : s'.rg.set 0 0 = s'.rg := by
  unfold stepS at e
  split at e
  · cases e
  · split at e
    · exact exec_z e
    · cases e
theorem run_plus (code : List Int) (k : Nat) : ∀ (f : Nat) (s : Mach), s.ok → s.st = f →
    (∃ s', runS code f s = (s', 5, 0) ∧ s'.st = 0 ∧ runS code (f + k) (s.plus k) = runS code k (s'.plus k)) ∨ (∃ s' how n, how ≠ 5 ∧ runS code f s = (s', how, n) ∧ runS code (f + k) (s.plus k) = (s'.plus k, how, n))
  | 0, s, _, hf => .inl ⟨s, rfl, hf, by rw [Nat.zero_add]⟩
  | f + 1, s, hok, hf => by
    have h0 : 0 < s.st := by omega
    have e1 : runS code (f + 1) s = (match stepS code s with | .go s2 => runS code f s2 | .out s2 how n => (s2, how, n)) := rfl
    have e2 : runS code (f + 1 + k) (s.plus k) = (match stepS code (s.plus k) with | .go s2 => runS code (f + k) s2 | .out s2 how n => (s2, how, n)) := by
      rw [show f + 1 + k = (f + k) + 1 by omega]; rfl
    rw [e1, e2, step_plus]
    cases e : stepS code s with
    | go s2 =>
      obtain ⟨h1, h2, _, _⟩ := stepS_ok hok h0 e
      exact run_plus code k f s2 h1 (by omega)
    | out s2 how n => exact .inr ⟨s2, how, n, (step_out e).1, rfl, rfl⟩
/-- What a run keeps. -/
structure Keep (s t : Mach) : Prop where
  rg : t.rg.length = 16
  st0 : 0 ≤ t.st
  st1 : t.st ≤ s.st
  fr : t.fr.length = s.fr.length
  da : t.da.length = s.da.length
  z : t.rg.set 0 0 = t.rg
theorem run_keep (code : List Int) : ∀ (f : Nat) (s : Mach), s.ok → s.st = f → s.rg.set 0 0 = s.rg → Keep s (runS code f s).1
  | 0, s, hok, hf, hz => ⟨hok.rg, hok.st0, Int.le_refl _, rfl, rfl, hz⟩
  | f + 1, s, hok, hf, hz => by
    have h0 : 0 < s.st := by omega
    show Keep s (match stepS code s with | .go s2 => runS code f s2 | .out s2 how n => (s2, how, n)).1
    cases e : stepS code s with
    | go s2 =>
      obtain ⟨h1, h2, h3, h4⟩ := stepS_ok hok h0 e
      have ih := run_keep code f s2 h1 (by omega) (step_z e)
      exact ⟨ih.rg, ih.st0, by have := ih.st1; show (runS code f s2).1.st ≤ s.st; omega, ih.fr.trans h3, ih.da.trans h4, ih.z⟩
    | out s2 how n =>
      obtain ⟨_, h1, h2, h3, h4⟩ := step_out e
      have := hok.st0
      exact ⟨by show s2.rg.length = 16; rw [h1]; exact hok.rg, by show 0 ≤ s2.st; omega, by show s2.st ≤ s.st; omega, by show s2.fr.length = _; rw [h2], by show s2.da.length = _; rw [h3], by show s2.rg.set 0 0 = s2.rg; rw [h1]; exact hz⟩
theorem begin_ok {s : Mach} (hr : s.rg.length = 16) (hst : s.st < 9223372036854775808) : s.begin.ok := ⟨by simp [Mach.begin, hr], by show 0 ≤ max 0 s.st; omega, by show max 0 s.st < _; omega⟩
theorem begin_z (s : Mach) : s.begin.rg.set 0 0 = s.begin.rg := by
  show (s.rg.set 0 0).set 0 0 = s.rg.set 0 0
  cases s.rg <;> rfl
theorem all_keep {code : List Int} {s : Mach} (hr : s.rg.length = 16) (hst : s.st < 9223372036854775808) : Keep s.begin (runAll code s).1 :=
  run_keep code _ s.begin (begin_ok hr hst) (by show max 0 s.st = _; omega) (begin_z s)
def Mach.with (s : Mach) (st : Int) : Mach := ⟨s.pc, s.rg, s.fr, s.da, st⟩
/-- The law: a run in two parts is the whole run. -/
theorem parts_law {code : List Int} {s : Mach} {k : Int} (hr : s.rg.length = 16) (hst : s.st < 9223372036854775808) (h0 : 0 ≤ k) (h1 : k ≤ s.st) :
    (runAll code (s.with k)).2.1 ≠ 5 ∧ runAll code s = ((runAll code (s.with k)).1.with ((runAll code (s.with k)).1.st + (s.st - k)), (runAll code (s.with k)).2) ∨
    (runAll code (s.with k)).2.1 = 5 ∧ (runAll code (s.with k)).1.st = 0 ∧ runAll code s = runAll code ((runAll code (s.with k)).1.with (s.st - k)) := by
  have hb : (s.with k).begin.st = k := by show max 0 k = k; omega
  have hbo : (s.with k).begin.ok := begin_ok hr (by show k < _; omega)
  have hk := all_keep (code := code) (s := s.with k) hr (by show k < _; omega)
  have e1 : runAll code s = runS code (k.toNat + (s.st - k).toNat) ((s.with k).begin.plus (s.st - k).toNat) := by
    unfold runAll
    have a1 : (max 0 s.st).toNat = k.toNat + (s.st - k).toNat := by omega
    have a2 : s.begin = (s.with k).begin.plus (s.st - k).toNat := by
      show Mach.mk _ _ _ _ (max 0 s.st) = Mach.mk _ _ _ _ (max 0 k + ((s.st - k).toNat : Int))
      rw [show max 0 s.st = max 0 k + ((s.st - k).toNat : Int) by omega]
      rfl
    rw [a1, a2]
  have e2 : runAll code (s.with k) = runS code k.toNat (s.with k).begin := by
    unfold runAll
    rw [show (max 0 (s.with k).st).toNat = k.toNat by show (max 0 k).toNat = _; omega]
  rw [e2] at hk
  rw [e1, e2]
  rcases run_plus code (s.st - k).toNat k.toNat (s.with k).begin hbo (by rw [hb]; omega) with ⟨s', a1, a2, a3⟩ | ⟨s', how, n, a0, a1, a2⟩
  · right
    rw [a3, a1]
    refine ⟨rfl, a2, ?_⟩
    rw [a1] at hk
    have hz : s'.rg.set 0 0 = s'.rg := hk.z
    show runS code (s.st - k).toNat (s'.plus ((s.st - k).toNat : Int)) = runS code (max 0 (s.st - k)).toNat (s'.with (s.st - k)).begin
    have b1 : (max 0 (s.st - k)).toNat = (s.st - k).toNat := by omega
    have b2 : (s'.with (s.st - k)).begin = s'.plus ((s.st - k).toNat : Int) := by
      show Mach.mk _ (s'.rg.set 0 0) _ _ (max 0 (s.st - k)) = Mach.mk _ s'.rg _ _ (s'.st + ((s.st - k).toNat : Int))
      rw [hz, a2, show max 0 (s.st - k) = 0 + ((s.st - k).toNat : Int) by omega]
      rfl
    rw [b1, b2]
  · left
    rw [a2, a1]
    refine ⟨a0, ?_⟩
    show (s'.plus _, how, n) = (s'.with (s'.st + (s.st - k)), how, n)
    have : s'.plus ((s.st - k).toNat : Int) = s'.with (s'.st + (s.st - k)) := by
      show Mach.mk _ _ _ _ (s'.st + ((s.st - k).toNat : Int)) = Mach.mk _ _ _ _ (s'.st + (s.st - k))
      rw [show ((s.st - k).toNat : Int) = s.st - k by omega]
    rw [this]
end Go.Proofs.YthdmdeiaonkeoaaDoor
