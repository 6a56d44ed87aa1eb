/- Regions that draw their order: a call by hand among operations that may come before it or behind it. -/
import Derived.Test.YtpgnfbdkhakbdaaGreatDoorLiftE
set_option linter.unusedSimpArgs false
set_option linter.unusedVariables false
namespace Go.Proofs.YtpgnfbdkhakbdaaGreatDoor.Lift
open Go Go.RowKit
section
variable {E : Env} {S : Specs E} {md : Region.Mode} {ops : Array Oper} {w w1 w' : World} {I I1 I' : Nat → Prop} {G G1 G' : Nat → Option Nat} {h h' : Heap}

def HandOK (E : Env) (ops : Array Oper) (o : Oper) (xs : Array Operand) (A : List PV) (H : Heap) (Rel : PV → Heap → Prop) (K : AS → Prop) (a : AS) : Prop :=
  a.h = H ∧ (xs.toList.all fun x => okArg (a.eval E x)) = true ∧ xs.toList.map (a.eval E) = A ∧ wantedA ops a o = some true ∧ okDst a.n o.dst = true ∧ ∀ p h', Rel p h' → K { a.put o.dst p with h := h' }
theorem HandOK.mono {o : Oper} {xs : Array Operand} {A : List PV} {H : Heap} {Rel : PV → Heap → Prop} {K K' : AS → Prop} {a : AS} (hk : ∀ a, K a → K' a) (h : HandOK E ops o xs A H Rel K a) : HandOK E ops o xs A H Rel K' a :=
  ⟨h.1, h.2.1, h.2.2.1, h.2.2.2.1, h.2.2.2.2.1, fun p h' r => hk _ (h.2.2.2.2.2 p h' r)⟩
theorem HandOK.swo {o : Oper} {f : FuncId} {xs : Array Operand} {ts : Array TypeId} {A : List PV} {H : Heap} {Rel : PV → Heap → Prop} {K : AS → Prop} {Q : Exit → AS → Prop} {a : AS} (hop : o.op = .call { callee := .value (.func f), args := xs, argTypes := ts })
    (hc : SCalls E f A H (fun e h' => ∃ p, e = .ret p ∧ Rel p h')) (h : HandOK E ops o xs A H Rel K a) : SWO E ops [o] (thenQ K Q) a := by
  obtain ⟨rfl, h2, rfl, h4, h5, h6⟩ := h
  refine SWO.call (.func f) xs ts f #[] #[] hop rfl rfl rfl h2 (by simp) hc h4 h5 (fun p h' q => ?_) (fun c h' q => ?_)
  · obtain ⟨p', e, r⟩ := q
    cases e
    exact SWO.nil (h6 _ _ r)
  · obtain ⟨p', e, r⟩ := q
    cases e
theorem HandOK.past {o oi : Oper} {xs : Array Operand} {ts : Array TypeId} {f : FuncId} {A : List PV} {H : Heap} {Rel : PV → Heap → Prop} {v : PV} {a : AS} {K : AS → Prop} (hop : o.op = .call { callee := .value (.func f), args := xs, argTypes := ts }) (hK : ∀ a b, AEq a b → K a → K b) (hap : oi.apart ops o = true)
    {P : AS → Prop} (hP : ∀ u h', P { a.put o.dst u with h := h' }) (hls : ∀ p h', Rel p h' → px E S (a.eval E) h' oi.op = px E S (a.eval E) a.h oi.op)
    (hy : LY E S ops oi v a) (hs : HandOK E ops o xs A H Rel K (a.put oi.dst v)) : HandOK E ops o xs A H Rel (fun a' => (LY E S ops oi v a' ∧ P a') ∧ K (a'.put oi.dst v)) a := by
  obtain ⟨h1, h2, h3⟩ := Oper.apart_spec hap
  have hn : ∀ (d : Option Tmp) (v : PV), (a.put d v).n = a.n := fun d v => by cases d <;> rfl
  have keep : ∀ (u : PV) (h' : Heap), ((px E S (a.eval E) a.h oi.op).1 → px E S (a.eval E) h' oi.op = px E S (a.eval E) a.h oi.op) → LY E S ops oi v { a.put o.dst u with h := h' } := fun u h' hh => by
    refine ⟨(congrArg (fun n => okDst n oi.dst) (hn o.dst u)).trans hy.1, ?_⟩
    have hw : wantedA ops { a.put o.dst u with h := h' } oi = wantedA ops a oi := (wanted_putA (v := u) h3 : wantedA ops (a.put o.dst u) oi = wantedA ops a oi)
    have hp : px E S (AS.eval E { a.put o.dst u with h := h' }) h' oi.op = px E S (a.eval E) h' oi.op := by
      have : AS.eval E { a.put o.dst u with h := h' } = (a.put o.dst u).eval E := by funext x; cases x <;> rfl
      rw [this]
      exact px_put h3
    rw [hw]
    show (_ ∧ (px E S (AS.eval E { a.put o.dst u with h := h' }) h' oi.op).1 ∧ v = (px E S (AS.eval E { a.put o.dst u with h := h' }) h' oi.op).2) ∨ _
    rw [hp]
    rcases hy.2 with ⟨hw, hp, rfl⟩ | ⟨hw, rfl⟩
    · rw [hh hp]; exact .inl ⟨hw, hp, rfl⟩
    · exact .inr ⟨hw, rfl⟩
  have swap : ∀ (u : PV) (h' : Heap), K { (a.put oi.dst v).put o.dst u with h := h' } → K ({ a.put o.dst u with h := h' }.put oi.dst v) := fun u h' k => by
    have e : ({ a.put o.dst u with h := h' } : AS).put oi.dst v = { (a.put o.dst u).put oi.dst v with h := h' } := by cases oi.dst <;> rfl
    rw [e]
    exact hK _ _ ((put_comm a v u h2).heap h') k
  have heval : ∀ x ∈ o.op.operands, (a.put oi.dst v).eval E x = a.eval E x := fun x hx => eval_put fun t e e2 => h1 t e (by subst e2; exact List.mem_append_left _ (List.mem_filterMap.2 ⟨.tmp t, by simpa using hx, rfl⟩))
  have hev : ∀ x ∈ xs.toList, (a.put oi.dst v).eval E x = a.eval E x := fun x hx => heval x (by rw [hop]; simp at hx; simp [Op.operands, Call.operands, hx])
  have hah : (a.put oi.dst v).h = a.h := put_h a _ _
  obtain ⟨k1, k2, k3, k4, k5, k6⟩ := hs
  rw [hah] at k1
  rw [wanted_putA (v := v) h1] at k4
  rw [hn oi.dst v] at k5
  rw [List.map_congr_left hev] at k3
  have k2' : (xs.toList.all fun x => okArg (a.eval E x)) = true := by
    rw [List.all_eq_true] at k2 ⊢
    intro x hx
    have := k2 x hx
    rw [hev x hx] at this
    exact this
  exact ⟨k1, k2', k3, k4, k5, fun p h' r => ⟨⟨keep p h' fun _ => hls p h' r, hP p h'⟩, swap p h' (k6 p h' r)⟩⟩
structure Hand (E : Env) (ops : Array Oper) where
  m : Nat
  o : Oper
  f : FuncId
  xs : Array Operand
  ts : Array TypeId
  A : List PV
  H : Heap
  Rel : PV → Heap → Prop
  ho : ops[m]? = some o
  hop : o.op = .call { callee := .value (.func f), args := xs, argTypes := ts }
  hc : SCalls E f A H (fun e h' => ∃ p, e = .ret p ∧ Rel p h')
def LOpM (E : Env) (S : Specs E) (ops : Array Oper) (M : Hand E ops) (i : Nat) (K : AS → Prop) (a : AS) : Prop := if i = M.m then HandOK E ops M.o M.xs M.A M.H M.Rel K a else LOp E S ops i K a
theorem LOpM.mono {M : Hand E ops} {i : Nat} {K K' : AS → Prop} {a : AS} (hk : ∀ a, K a → K' a) (h : LOpM E S ops M i K a) : LOpM E S ops M i K' a := by
  unfold LOpM at h ⊢
  split
  · rename_i e; rw [if_pos e] at h; exact h.mono hk
  · rename_i e; rw [if_neg e] at h; exact LOp.mono hk h
def LAnyM (E : Env) (S : Specs E) (md : Region.Mode) (ops : Array Oper) (M : Hand E ops) (L1 : Array Bool) (last : Nat) (Q : AS → Prop) : Nat → Array Bool → AS → Prop
  | 0, listed, a => listed = L1 ∧ Region.ready md ops listed = [last] ∧ ∃ c, AEq c a ∧ Q c
  | fuel + 1, listed, a => Region.ready md ops listed ≠ [] ∧ ∀ i ∈ Region.ready md ops listed, LOpM E S ops M i (LAnyM E S md ops M L1 last Q fuel (listed.setIfInBounds i true)) a
theorem AEq.handOK {o : Oper} {xs : Array Operand} {A : List PV} {H : Heap} {Rel : PV → Heap → Prop} {K : AS → Prop} {a b : AS} (e : AEq a b) (hK : ∀ a b, AEq a b → K a → K b) (h : HandOK E ops o xs A H Rel K a) : HandOK E ops o xs A H Rel K b := by
  obtain ⟨k1, k2, k3, k4, k5, k6⟩ := h
  have he : a.eval E = b.eval E := e.eval
  rw [he] at k2 k3
  refine ⟨e.2.1.symm.trans k1, k2, k3, ?_, by rw [← e.1]; exact k5, fun p h' r => hK _ _ ((e.put _ _).heap h') (k6 p h' r)⟩
  rw [← e.wanted]
  exact k4
theorem AEq.lanyM {M : Hand E ops} {L1 : Array Bool} {last : Nat} {Q : AS → Prop} : ∀ (fuel : Nat) {listed : Array Bool} {a b : AS}, AEq a b → LAnyM E S md ops M L1 last Q fuel listed a → LAnyM E S md ops M L1 last Q fuel listed b
  | 0, _, _, _, e, h => by
    obtain ⟨h1, h2, c, hc, k⟩ := h
    exact ⟨h1, h2, c, hc.trans e, k⟩
  | fuel + 1, _, _, _, e, h => ⟨h.1, fun i hi => by
      have := h.2 i hi
      unfold LOpM at this ⊢
      split
      · rename_i e2; rw [if_pos e2] at this; exact e.handOK (fun _ _ e h => AEq.lanyM fuel e h) this
      · rename_i e2; rw [if_neg e2] at this; exact e.lop (fun _ _ e h => AEq.lanyM fuel e h) this⟩
theorem LAnyM.sound {M : Hand E ops} {L1 : Array Bool} {last f : Nat} {Q : AS → Prop} {R : Exit → AS → Prop} (hQ : ∀ c, Q c → RestOK E md ops R f L1 c) : ∀ (fuel : Nat) {listed : Array Bool} {a : AS}, LAnyM E S md ops M L1 last Q fuel listed a → RestOK E md ops R (fuel + f) listed a
  | 0, listed, a, h => by
    obtain ⟨rfl, _, c, hc, k⟩ := h
    intro w I G act g r w0 I0 G0 h0 s
    rw [Nat.zero_add]
    exact hQ c k w I G act (by rw [hc.2.1]; exact g) (r.same hc.1 hc.2.2) w0 I0 G0 h0 (by rw [hc.2.1]; exact s)
  | fuel + 1, listed, a, h => by
    intro w I G act g r w0 I0 G0 h0 s
    rw [Nat.add_right_comm]
    refine ⟨fun e => absurd e h.1, fun i hi => ?_⟩
    have h1 := h.2 i hi
    unfold LOpM at h1
    by_cases hm : i = M.m
    · rw [if_pos hm] at h1
      have hs : SWO E ops [M.o] (thenQ (LAnyM E S md ops M L1 last Q fuel (listed.setIfInBounds i true)) R) a := h1.swo M.hop M.hc
      have h4 := hs w I G act g r
      unfold wpList at h4
      unfold wpOp
      rw [hm, M.ho]
      dsimp only
      have k1 : ∀ act' w', wpList E.P ops (Post E w I G a.h (thenQ (LAnyM E S md ops M L1 last Q fuel (listed.setIfInBounds i true)) R)) [] act' w' → wpAny E.P md ops (Post E w0 I0 G0 h0 R) (fuel + f) (listed.setIfInBounds M.m true) act' w' := fun act' w' ⟨b, I', G', g', r', s', q⟩ => by
        rw [← hm]
        exact LAnyM.sound hQ fuel q w' I' G' act' g' r' w0 I0 G0 h0 (s.trans s')
      have k2 : ∀ e act' w', e ≠ .normal → Post E w I G a.h (thenQ (LAnyM E S md ops M L1 last Q fuel (listed.setIfInBounds i true)) R) e act' w' → Post E w0 I0 G0 h0 R e act' w' := fun e act' w' hne ⟨b, I', G', g', r', s', q⟩ => by
        refine ⟨b, I', G', g', r', s.trans s', ?_⟩
        cases e <;> first | exact absurd rfl hne | exact q
      split
      · rename_i hw
        rw [if_pos hw] at h4
        rcases h4 with h4 | ⟨h5, a', w', h6⟩
        · exact .inl (upon_mono_but k1 k2 h4)
        · exact .inr ⟨h5, a', w', k2 _ _ _ (fun e => by cases e) h6⟩
      · rename_i hw
        rw [if_neg hw] at h4
        exact k1 _ _ h4
    · rw [if_neg hm] at h1
      unfold LOp at h1
      unfold wpOp
      split
      · rename_i e
        rw [e] at h1
        exact LAnyM.sound hQ fuel h1 w I G act g r w0 I0 G0 h0 s
      · rename_i o e
        rw [e] at h1
        obtain ⟨hd, h1⟩ := h1
        cases hw : wantedA ops a o with
        | none => rw [hw] at h1; simp at h1
        | some b =>
          rw [hw] at h1
          cases b with
          | true =>
            rw [if_pos rfl] at h1
            rw [if_pos (r.wanted hw)]
            exact .inl (step1_wp hd h1 g r fun a' act' w' I' G' g' r' s' k => LAnyM.sound hQ fuel k w' I' G' act' g' r' w0 I0 G0 h0 (s.trans s'))
          | false =>
            rw [if_neg (by simp), if_pos rfl] at h1
            rw [if_neg (by rw [r.wanted hw]; simp)]
            have hh : (a.put o.dst (.tuple [])).h = a.h := put_h a _ _
            exact LAnyM.sound hQ fuel h1 w I G _ (by rw [hh]; exact g) (r.put hd ⟨[], rfl, rfl⟩) w0 I0 G0 h0 (by rw [hh]; exact s)
theorem LAnyM.first {M : Hand E ops} {L1 : Array Bool} {last : Nat} {Q : AS → Prop} {i : Nat} {oi : Oper} {v : PV} (hi : ops[i]? = some oi) (him : i ≠ M.m) (hw0 : waits md ops i ops.size last = true) (hq : quietOp S oi.op = true) {P : AS → Prop}
    (hPk : ∀ k ok, ops[k]? = some ok → k ≠ i → oi.apart ops ok = true → ∀ a u h', P a → P { a.put ok.dst u with h := h' })
    (hPm : waits md ops i ops.size M.m = false → ∀ a, P a → a.h = M.H → ∀ p h', M.Rel p h' → px E S (a.eval E) h' oi.op = px E S (a.eval E) a.h oi.op) :
    ∀ (fuel : Nat) (listed : Array Bool) (a : AS),
      (∀ j oj, ops[j]? = some oj → j ≠ i → listed.getD j true = false → waits md ops i ops.size j = false → oi.apart ops oj = true ∧ (j ≠ M.m → (isLoad oi.op && hxOp S oj.op) = false)) →
      Closed md ops listed → i ∈ Region.ready md ops listed → LY E S ops oi v a → P a →
      LAnyM E S md ops M L1 last Q fuel (listed.setIfInBounds i true) (a.put oi.dst v) → LAnyM E S md ops M L1 last Q (fuel + 1) listed a := by
  intro fuel
  have front : ∀ {K : AS → Prop} {a : AS}, LY E S ops oi v a → K (a.put oi.dst v) → LOpM E S ops M i K a := fun hy H => by
    unfold LOpM
    rw [if_neg him]
    exact hy.lop hi hq H
  induction fuel with
  | zero =>
    intro listed a _ hcl hr hy _ H
    refine ⟨fun h => (by rw [h] at hr; cases hr), fun j hj => ?_⟩
    by_cases hji : j = i
    · subst hji; exact front hy H
    · have h1 := ready_mono hj hji
      rw [H.2.1] at h1
      obtain rfl : j = last := by simpa using h1
      obtain ⟨_, oj, hoj, hall⟩ := mem_ready.1 hj
      have hi0 : listed.getD i false = false := by
        have h0 := (mem_ready.1 hr).1
        rcases Nat.lt_or_ge i listed.size with h' | h'
        · simp [h'] at h0 ⊢; exact h0
        · simp [Array.getElem?_eq_none h'] at h0
      rw [waits_no hcl hi0 _ _ _ hoj hall] at hw0
      cases hw0
  | succ fuel ih =>
    intro listed a hfree hcl hr hy hPa H
    refine ⟨fun h => (by rw [h] at hr; cases hr), fun j hj => ?_⟩
    by_cases hji : j = i
    · subst hji; exact front hy H
    · have h1 := H.2 j (ready_mono hj hji)
      obtain ⟨hjun, oj, hoj, hall⟩ := mem_ready.1 hj
      have hi0 : listed.getD i false = false := by
        have h0 := (mem_ready.1 hr).1
        rcases Nat.lt_or_ge i listed.size with h' | h'
        · simp [h'] at h0 ⊢; exact h0
        · simp [Array.getElem?_eq_none h'] at h0
      have hnot : waits md ops i ops.size j = false := waits_no hcl hi0 _ _ _ hoj hall
      obtain ⟨hap, hls⟩ := hfree j oj hoj hji hjun hnot
      have hfree' : ∀ k ok, ops[k]? = some ok → k ≠ i → (listed.setIfInBounds j true).getD k true = false →
          waits md ops i ops.size k = false → oi.apart ops ok = true ∧ (k ≠ M.m → (isLoad oi.op && hxOp S ok.op) = false) := fun k ok hk hki hun hno => by
        refine hfree k ok hk hki ?_ hno
        by_cases hjk : j = k
        · subst hjk; exact hjun
        · rw [getD_set_ne true hjk] at hun; exact hun
      have go : ∀ a', (LY E S ops oi v a' ∧ P a') ∧ LAnyM E S md ops M L1 last Q fuel ((listed.setIfInBounds i true).setIfInBounds j true) (a'.put oi.dst v) → LAnyM E S md ops M L1 last Q (fuel + 1) (listed.setIfInBounds j true) a' := fun a' h3 => by
        refine ih (listed.setIfInBounds j true) a' hfree' (hcl.step hj) (ready_mono hr (Ne.symm hji)) h3.1.1 h3.1.2 ?_
        rw [Array.setIfInBounds_comm _ _ hji]
        exact h3.2
      unfold LOpM at h1 ⊢
      by_cases hjm : j = M.m
      · rw [if_pos hjm] at h1 ⊢
        obtain rfl : oj = M.o := by
          have := M.ho
          rw [← hjm, hoj] at this
          exact Option.some.inj this
        have hH : a.h = M.H := by have := h1.1; rw [put_h] at this; exact this
        exact HandOK.mono go (HandOK.past (S := S) M.hop (fun _ _ e k => AEq.lanyM fuel e k) hap (P := P) (fun u h' => hPk j _ hoj hji hap a u h' hPa) (fun p h' r => hPm (by rw [← hjm]; exact hnot) a hPa hH p h' r) hy h1)
      · rw [if_neg hjm] at h1 ⊢
        exact LOp.mono go (LOp.pastP (P := P) (fun _ _ e k => AEq.lanyM fuel e k) hoj hap (fun u h' => hPk j oj hoj hji hap a u h' hPa) (.inl (hls hjm)) hy h1)
end
end Go.Proofs.YtpgnfbdkhakbdaaGreatDoor.Lift

namespace Go.Proofs.YtpgnfbdkhakbdaaGreatDoor.Lift
open Go Go.RowKit
section
variable {E : Env} {S : Specs E} {md : Region.Mode} {ops : Array Oper}
def postB (S : Specs E) (md : Region.Mode) (ops : Array Oper) (m last : Nat) : List Nat → Array Bool → Bool
  | [], listed => Region.ready md ops listed == [last]
  | i :: l, listed => (Region.ready md ops listed).contains i && (ops[i]?).isSome && i != m && waits md ops i ops.size last && (match ops[i]? with | some o => !isLoad o.op | none => false) && freeL S md ops listed i && postB S md ops m last l (listed.setIfInBounds i true)
theorem Closed.postB {m last : Nat} : ∀ (l : List Nat) (L : Array Bool), Closed md ops L → postB S md ops m last l L = true → Closed md ops (markL l L)
  | [], _, hc, _ => hc
  | i :: l, L, hc, hB => by
    simp only [Lift.postB, Bool.and_eq_true] at hB
    have hr : i ∈ Region.ready md ops L := by simpa using hB.1.1.1.1.1.1
    exact Closed.postB l _ (hc.step hr) hB.2
end
end Go.Proofs.YtpgnfbdkhakbdaaGreatDoor.Lift
