/- Regions that draw their order: one operation by hand, and an allocation that may come before it or after. -/
import Derived.Test.YtpgnfbdkhakbdaaGreatDoorLiftD
set_option linter.unusedSimpArgs false
set_option linter.unusedVariables false
namespace Go.Proofs.YtpgnfbdkhakbdaaGreatDoor.Lift
open Go Go.RowKit
section
variable {E : Env} {S : Specs E} {md : Region.Mode} {ops : Array Oper} {w w1 w' : World} {I I1 I' : Nat → Prop} {G G1 G' : Nat → Option Nat} {h h' : Heap}

def LAnyG (E : Env) (S : Specs E) (md : Region.Mode) (ops : Array Oper) (m : Nat) (Stop : Nat → Array Bool → AS → Prop) : Nat → Array Bool → AS → Prop
  | 0, _, _ => False
  | fuel + 1, listed, a => Region.ready md ops listed ≠ [] ∧ ∀ i ∈ Region.ready md ops listed, (i = m → Stop fuel listed a) ∧ (i ≠ m → LOp E S ops i (LAnyG E S md ops m Stop fuel (listed.setIfInBounds i true)) a)
theorem AEq.lanyG {m : Nat} {Stop : Nat → Array Bool → AS → Prop} (hS : ∀ k l a b, AEq a b → Stop k l a → Stop k l b) : ∀ (fuel : Nat) {listed : Array Bool} {a b : AS}, AEq a b → LAnyG E S md ops m Stop fuel listed a → LAnyG E S md ops m Stop fuel listed b
  | 0, _, _, _, _, h => h
  | fuel + 1, _, _, _, e, h => ⟨h.1, fun i hi => ⟨fun hm => hS _ _ _ _ e ((h.2 i hi).1 hm), fun hm => e.lop (fun _ _ e h => AEq.lanyG hS fuel e h) ((h.2 i hi).2 hm)⟩⟩
theorem LAnyG.sound {m : Nat} {o : Oper} (ho : ops[m]? = some o) {Stop : Nat → Array Bool → AS → Prop} {R : Exit → AS → Prop} (hS : ∀ k listed a, Stop k listed a → ∃ c, AEq c a ∧ SWO E ops [o] (thenQ (RestOK E md ops R k (listed.setIfInBounds m true)) R) c) :
    ∀ (fuel : Nat) {listed : Array Bool} {a : AS}, LAnyG E S md ops m Stop fuel listed a → RestOK E md ops R fuel listed a
  | 0, _, _, h => h.elim
  | fuel + 1, listed, a, h => by
    intro w I G act g r w0 I0 G0 h0 s
    refine ⟨fun e => absurd e h.1, fun i hi => ?_⟩
    by_cases hm : i = m
    · obtain ⟨c, hc, hs⟩ := hS _ _ _ ((h.2 i hi).1 hm)
      subst hm
      have gc : Good E w I G c.h := by rw [hc.2.1]; exact g
      have rc : RS E w I c act := r.same hc.1 hc.2.2
      have h4 := hs w I G act gc rc
      have s2 : Stp E.mono w0 I0 G0 h0 w I G c.h := by rw [hc.2.1]; exact s
      unfold wpList at h4
      unfold wpOp
      rw [ho]
      dsimp only
      have k1 : ∀ act' w', wpList E.P ops (Post E w I G c.h (thenQ (RestOK E md ops R fuel (listed.setIfInBounds i true)) R)) [] act' w' → wpAny E.P md ops (Post E w0 I0 G0 h0 R) fuel (listed.setIfInBounds i true) act' w' := fun act' w' ⟨b, I', G', g', r', s', q⟩ =>
        q w' I' G' act' g' r' w0 I0 G0 h0 (s2.trans s')
      have k2 : ∀ e act' w', e ≠ .normal → Post E w I G c.h (thenQ (RestOK E md ops R fuel (listed.setIfInBounds i true)) R) e act' w' → Post E w0 I0 G0 h0 R e act' w' := fun e act' w' hne ⟨b, I', G', g', r', s', q⟩ => by
        refine ⟨b, I', G', g', r', s2.trans s', ?_⟩
        cases e <;> first | exact absurd rfl hne | exact q
      split
      · rename_i hw
        rw [if_pos hw] at h4
        rcases h4 with h4 | ⟨h5, a', w', h6⟩
        · exact .inl (upon_mono_but k1 k2 h4)
        · exact .inr ⟨h5, a', w', k2 _ _ _ (fun e => by cases e) h6⟩
      · rename_i hw
        rw [if_neg hw] at h4
        exact k1 _ _ h4
    · have h1 := (h.2 i hi).2 hm
      unfold LOp at h1
      unfold wpOp
      split
      · rename_i e
        rw [e] at h1
        exact LAnyG.sound ho hS fuel h1 w I G act g r w0 I0 G0 h0 s
      · rename_i o e
        rw [e] at h1
        obtain ⟨hd, h1⟩ := h1
        cases hw : wantedA ops a o with
        | none => rw [hw] at h1; simp at h1
        | some b =>
          rw [hw] at h1
          cases b with
          | true =>
            rw [if_pos rfl] at h1
            rw [if_pos (r.wanted hw)]
            exact .inl (step1_wp hd h1 g r fun a' act' w' I' G' g' r' s' k => LAnyG.sound ho hS fuel k w' I' G' act' g' r' w0 I0 G0 h0 (s.trans s'))
          | false =>
            rw [if_neg (by simp), if_pos rfl] at h1
            rw [if_neg (by rw [r.wanted hw]; simp)]
            have hh : (a.put o.dst (.tuple [])).h = a.h := put_h a _ _
            exact LAnyG.sound ho hS fuel h1 w I G _ (by rw [hh]; exact g) (r.put hd ⟨[], rfl, rfl⟩) w0 I0 G0 h0 (by rw [hh]; exact s)
theorem LAnyG.first {m : Nat} {Stop : Nat → Array Bool → AS → Prop} (hS : ∀ k l a b, AEq a b → Stop k l a → Stop k l b) {i : Nat} {oi : Oper} {v : PV} (hi : ops[i]? = some oi) (hw0 : waits md ops i ops.size m = true) (hq : quietOp S oi.op = true) (him : i ≠ m) :
    ∀ (fuel : Nat) (listed : Array Bool) (a : AS),
      (∀ j oj, ops[j]? = some oj → j ≠ i → listed.getD j true = false → waits md ops i ops.size j = false → oi.apart ops oj = true ∧ (isLoad oi.op && hxOp S oj.op) = false) →
      Closed md ops listed → i ∈ Region.ready md ops listed → LY E S ops oi v a →
      LAnyG E S md ops m Stop fuel (listed.setIfInBounds i true) (a.put oi.dst v) → LAnyG E S md ops m Stop (fuel + 1) listed a := by
  intro fuel
  induction fuel with
  | zero => intro listed a _ _ _ _ H; exact H.elim
  | succ fuel ih =>
    intro listed a hfree hcl hr hy H
    refine ⟨fun h => (by rw [h] at hr; cases hr), fun j hj => ?_⟩
    by_cases hji : j = i
    · subst hji; exact ⟨fun e => absurd e him, fun _ => hy.lop hi hq H⟩
    · obtain ⟨hjun, oj, hoj, hall⟩ := mem_ready.1 hj
      have hi0 : listed.getD i false = false := by
        have h0 := (mem_ready.1 hr).1
        rcases Nat.lt_or_ge i listed.size with h' | h'
        · simp [h'] at h0 ⊢; exact h0
        · simp [Array.getElem?_eq_none h'] at h0
      have hnot : waits md ops i ops.size j = false := waits_no hcl hi0 _ _ _ hoj hall
      refine ⟨fun hjm => ?_, fun hjm => ?_⟩
      · rw [hjm] at hnot; rw [hnot] at hw0; cases hw0
      · have h1 := (H.2 j (ready_mono hj hji)).2 hjm
        obtain ⟨hap, hls⟩ := hfree j oj hoj hji hjun hnot
        have h2 := LOp.past (fun _ _ e k => AEq.lanyG hS fuel e k) hoj hap hls hy h1
        have hfree' : ∀ k ok, ops[k]? = some ok → k ≠ i → (listed.setIfInBounds j true).getD k true = false →
            waits md ops i ops.size k = false → oi.apart ops ok = true ∧ (isLoad oi.op && hxOp S ok.op) = false := fun k ok hk hki hun hno => by
          refine hfree k ok hk hki ?_ hno
          by_cases hjk : j = k
          · subst hjk; exact hjun
          · rw [getD_set_ne true hjk] at hun; exact hun
        refine LOp.mono (fun a' h3 => ih (listed.setIfInBounds j true) a' hfree' (hcl.step hj) (ready_mono hr (Ne.symm hji)) h3.1 ?_) h2
        rw [Array.setIfInBounds_comm _ _ hji]
        exact h3.2
end
end Go.Proofs.YtpgnfbdkhakbdaaGreatDoor.Lift

namespace Go.Proofs.YtpgnfbdkhakbdaaGreatDoor.Lift
open Go Go.RowKit
section
variable {E : Env} {S : Specs E} {ops : Array Oper}
def RestC (E : Env) (ops : Array Oper) (Q : Exit → AS → Prop) (k : Nat) (listed : Array Bool) (a : AS) : Prop := Closed .any ops listed → RestOK E .any ops Q k listed a
def cutB (S : Specs E) (ops : Array Oper) (ls : List Nat) (m : Nat) (listed : Array Bool) : Bool := waitsB .any ops ls m && (ops[m]?).isSome && ordOKD S .any ops m ls listed
theorem RestC.cut (S : Specs E) {Q : Exit → AS → Prop} {listed : Array Bool} {a : AS} (ls : List Nat) (m : Nat) {k n : Nat} (hn : n = ls.length + (k + 1)) (hB : cutB S ops ls m listed = true)
    (h : wpO E S ops ls (SWO E ops (ops[m]?).toList (thenQ (RestC E ops Q k ((markL ls listed).setIfInBounds m true)) Q)) a) : RestC E ops Q n listed a := by
  intro hcl
  subst hn
  simp only [cutB, Bool.and_eq_true] at hB
  obtain ⟨⟨b1, b2⟩, b3⟩ := hB
  obtain ⟨o, ho⟩ := Option.isSome_iff_exists.1 b2
  simp only [ho, Option.toList_some] at h
  have h1 : wpO E S ops ls (fun b => ∃ c, AEq c b ∧ SWO E ops [o] (thenQ (RestC E ops Q k ((markL ls listed).setIfInBounds m true)) Q) c) a := wpO.mono (fun c k => ⟨c, .refl c, k⟩) _ h
  have h2 := wpO_anyD (md := .any) (last := m) (fun a b e ⟨c, hc, k⟩ => ⟨c, hc.trans e, k⟩) ls listed a rfl b1 hcl b3 h1
  obtain ⟨hc2, hr2⟩ := hcl.marks b3
  have hcl2 : Closed .any ops ((markL ls listed).setIfInBounds m true) := hc2.step (by rw [hr2]; simp)
  exact LAnyD.sound ho (fun a h => h) (fun b hb => hb hcl2) ls.length h2
theorem RestC.last (S : Specs E) {Q : Exit → AS → Prop} {listed : Array Bool} {a : AS} (lf : List Nat) {n : Nat} (hn : n = lf.length) (hB : ordOK S .any ops lf listed = true) (h : wpO E S ops lf (Q .normal) a) : RestC E ops Q n listed a := by
  intro hcl
  subst hn
  exact wpChain_ok (segs := []) lf _ a hcl hB h
theorem RestC.norm {Q : Exit → AS → Prop} {listed : Array Bool} {a : AS} {k n : Nat} {l : List (Nat × PV)} {h : Heap} (ha : Has a n l h) (r : RestC E ops Q k listed ⟨n, l, h⟩) : RestC E ops Q k listed a := by
  intro hcl w I G act g rs
  have e : a.h = h := ha.2.1
  refine e ▸ r hcl w I G act (e ▸ g) (rs.weaken (b := ⟨n, l, h⟩) ha.1.symm fun t => ?_)
  show (look l t).getD .any = _ ∨ (look l t).getD .any = _
  cases e : look l t with
  | none => exact .inr rfl
  | some v => exact .inl (hasAll_look ha.2.2 e).symm
end
end Go.Proofs.YtpgnfbdkhakbdaaGreatDoor.Lift
