/- What is owned, and stands in a cell of an owned block, is let go: the cell is a list. -/
import Derived.Test.YtpgnfbdkhakbdaaGreatDoorLiftF
import Derived.Test.YtpgnfbdkhakbdaaGreatDoorLiftW
import Derived.Laws.AppendOwn
import Derived.Test.YtpgnfbdkhakbdaaGreatDoorLiftQ
set_option linter.unusedSimpArgs false
set_option linter.unusedVariables false
namespace Go.Proofs.YtpgnfbdkhakbdaaGreatDoor.Lift
open Go Go.RowKit
section
variable {E : Env} {w : World} {I : Nat → Prop} {G : Nat → Option Nat} {h : Heap}
theorem Good.recell (g : Good E w I G h) {q : Nat} {t : TypeId} {size : Nat} {cs cs' : List PV} (hq : h q = some (.cells t size cs)) (hr : ∀ us, RL w I cs us → RL w I cs' us) :
    Good E w I G (h.put q (.cells t size cs')) ∧ Stp E.mono w I G h w I G (h.put q (.cells t size cs')) :=
  g.write hq rfl rfl (fun _ _ => rfl) rfl rfl rfl (by
    obtain ⟨_, _, _, us, rest, h1, h2, h3⟩ := g.own q _ hq
    exact ⟨us, rest, h1, hr us h2, h3⟩)
theorem Good.ownAt {h1 H : Heap} (g : Good E w I G H) {e t : TypeId} {sz size q : Nat} {xs : List (List PV)} {v : PV} {pre post : List PV} (o : Own h1 e sz xs v H) (hq : h1 q = some (.cells t size (pre ++ v :: post))) :
    ∃ I' G', Good E w I' G' (h1.put q (.cells t size (pre ++ .list sz xs :: post))) ∧ Stp E.mono w I G H w I' G' (h1.put q (.cells t size (pre ++ .list sz xs :: post))) ∧ Keeps w I w I' := by
  obtain ⟨I', G', g', s, hk, hr⟩ := o.letGo1 g
  have hv : ∀ u, R1 w I' v u → R1 w I' (.list sz xs) u := fun u hu => hr u (by
    rcases o with ⟨rfl, _⟩ | ⟨_, _, rfl, _⟩ <;> exact hu)
  obtain ⟨g2, s2⟩ := g'.recell hq (cs' := pre ++ .list sz xs :: post) (fun us hu => RL.swap (fun k hk => ⟨hk, rfl⟩) hv pre post us hu)
  exact ⟨I', G', g2, s.trans s2, hk⟩
theorem SW.ownAt {c : Code} {Q : Exit → AS → Prop} {a : AS} {h1 : Heap} (q : Nat) {e t : TypeId} {sz size : Nat} {xs : List (List PV)} {v : PV} {pre post : List PV} (o : Own h1 e sz xs v a.h) (hq : h1 q = some (.cells t size (pre ++ v :: post)))
    (k : SW E c Q { a with h := h1.put q (.cells t size (pre ++ .list sz xs :: post)) }) : SW E c Q a := by
  intro w I G act g r
  obtain ⟨I', G', g', s, hk⟩ := g.ownAt o hq
  have r' : RS E w I' { a with h := h1.put q (.cells t size (pre ++ .list sz xs :: post)) } act := ⟨r.defers, r.size, fun t => R.keeps hk _ _ (r.slot t)⟩
  exact wp_mono (k w _ _ act g' r') fun _ _ _ p => p.trans s
theorem SWO.ownAt {ops : Array Oper} {rest : List Oper} {Q : Exit → AS → Prop} {a : AS} {h1 : Heap} (q : Nat) {e t : TypeId} {sz size : Nat} {xs : List (List PV)} {v : PV} {pre post : List PV} (o : Own h1 e sz xs v a.h) (hq : h1 q = some (.cells t size (pre ++ v :: post)))
    (k : SWO E ops rest Q { a with h := h1.put q (.cells t size (pre ++ .list sz xs :: post)) }) : SWO E ops rest Q a := by
  intro w I G act g r
  obtain ⟨I', G', g', s, hk⟩ := g.ownAt o hq
  have r' : RS E w I' { a with h := h1.put q (.cells t size (pre ++ .list sz xs :: post)) } act := ⟨r.defers, r.size, fun t => R.keeps hk _ _ (r.slot t)⟩
  exact wpList_mono (fun _ _ _ p => p.trans s) _ _ _ (k w _ _ act g' r')
theorem HTo.less {h : Heap} {q : Nat} {t : TypeId} {size : Nat} {cs ds : List PV} (hq : h q = some (.cells t size (cs ++ ds))) : HTo E h (h.put q (.cells t size cs)) := fun w I G g => by
  obtain ⟨_, _, _, us, rest, h1, h2, h3⟩ := g.own q _ hq
  have : ∃ u1 u2, us = u1 ++ u2 ∧ RL w I cs u1 ∧ RL w I ds u2 := by
    clear h1 h3 hq
    induction cs generalizing us with
    | nil => exact ⟨[], us, rfl, rfl, h2⟩
    | cons x cs ih =>
      obtain ⟨u, us', rfl, hu, h2⟩ := h2
      obtain ⟨u1, u2, rfl, k1, k2⟩ := ih us' h2
      exact ⟨u :: u1, u2, rfl, ⟨u, u1, rfl, hu, k1⟩, k2⟩
  obtain ⟨u1, u2, rfl, k1, k2⟩ := this
  obtain ⟨g', s⟩ := g.write (w' := w) (ob := .cells t size cs) hq rfl rfl (fun _ _ => rfl) rfl rfl rfl ⟨u1, u2 ++ rest, by rw [h1, List.append_assoc], k1, by simp at h3 ⊢; omega⟩
  exact ⟨I, G, g', s⟩
end
end Go.Proofs.YtpgnfbdkhakbdaaGreatDoor.Lift

namespace Go.Proofs.YtpgnfbdkhakbdaaGreatDoor.Lift
open Go Go.RowKit
section
variable {E : Env} {S : Specs E} {md : Region.Mode} {ops : Array Oper} {w w1 w' : World} {I I1 I' : Nat → Prop} {G G1 G' : Nat → Option Nat} {h h' : Heap}
theorem HandOK.pastG {o oi : Oper} {xs : Array Operand} {A : List PV} {H : Heap} {Rel : PV → Heap → Prop} {v : PV} {a : AS} {K : AS → Prop} (hx0 : ∀ x ∈ xs.toList, x ∈ o.op.operands) (hK : ∀ a b, AEq a b → K a → K b) (hap : oi.apart ops o = true)
    {P : AS → Prop} (hP : ∀ u h', P { a.put o.dst u with h := h' }) (hls : ∀ p h', Rel p h' → px E S (a.eval E) h' oi.op = px E S (a.eval E) a.h oi.op)
    (hy : LY E S ops oi v a) (hs : HandOK E ops o xs A H Rel K (a.put oi.dst v)) : HandOK E ops o xs A H Rel (fun a' => (LY E S ops oi v a' ∧ P a') ∧ K (a'.put oi.dst v)) a := by
  obtain ⟨h1, h2, h3⟩ := Oper.apart_spec hap
  have hn : ∀ (d : Option Tmp) (v : PV), (a.put d v).n = a.n := fun d v => by cases d <;> rfl
  have keep : ∀ (u : PV) (h' : Heap), ((px E S (a.eval E) a.h oi.op).1 → px E S (a.eval E) h' oi.op = px E S (a.eval E) a.h oi.op) → LY E S ops oi v { a.put o.dst u with h := h' } := fun u h' hh => by
    refine ⟨(congrArg (fun n => okDst n oi.dst) (hn o.dst u)).trans hy.1, ?_⟩
    have hw : wantedA ops { a.put o.dst u with h := h' } oi = wantedA ops a oi := (wanted_putA (v := u) h3 : wantedA ops (a.put o.dst u) oi = wantedA ops a oi)
    have hp : px E S (AS.eval E { a.put o.dst u with h := h' }) h' oi.op = px E S (a.eval E) h' oi.op := by
      have : AS.eval E { a.put o.dst u with h := h' } = (a.put o.dst u).eval E := by funext x; cases x <;> rfl
      rw [this]
      exact px_put h3
    rw [hw]
    show (_ ∧ (px E S (AS.eval E { a.put o.dst u with h := h' }) h' oi.op).1 ∧ v = (px E S (AS.eval E { a.put o.dst u with h := h' }) h' oi.op).2) ∨ _
    rw [hp]
    rcases hy.2 with ⟨hw, hp, rfl⟩ | ⟨hw, rfl⟩
    · rw [hh hp]; exact .inl ⟨hw, hp, rfl⟩
    · exact .inr ⟨hw, rfl⟩
  have swap : ∀ (u : PV) (h' : Heap), K { (a.put oi.dst v).put o.dst u with h := h' } → K ({ a.put o.dst u with h := h' }.put oi.dst v) := fun u h' k => by
    have e : ({ a.put o.dst u with h := h' } : AS).put oi.dst v = { (a.put o.dst u).put oi.dst v with h := h' } := by cases oi.dst <;> rfl
    rw [e]
    exact hK _ _ ((put_comm a v u h2).heap h') k
  have heval : ∀ x ∈ o.op.operands, (a.put oi.dst v).eval E x = a.eval E x := fun x hx => eval_put fun t e e2 => h1 t e (by subst e2; exact List.mem_append_left _ (List.mem_filterMap.2 ⟨.tmp t, by simpa using hx, rfl⟩))
  have hev : ∀ x ∈ xs.toList, (a.put oi.dst v).eval E x = a.eval E x := fun x hx => heval x (hx0 x hx)
  have hah : (a.put oi.dst v).h = a.h := put_h a _ _
  obtain ⟨k1, k2, k3, k4, k5, k6⟩ := hs
  rw [hah] at k1
  rw [wanted_putA (v := v) h1] at k4
  rw [hn oi.dst v] at k5
  rw [List.map_congr_left hev] at k3
  have k2' : (xs.toList.all fun x => okArg (a.eval E x)) = true := by
    rw [List.all_eq_true] at k2 ⊢
    intro x hx
    have := k2 x hx
    rw [hev x hx] at this
    exact this
  exact ⟨k1, k2', k3, k4, k5, fun p h' r => ⟨⟨keep p h' fun _ => hls p h' r, hP p h'⟩, swap p h' (k6 p h' r)⟩⟩
structure HandG (E : Env) (ops : Array Oper) where
  m : Nat
  o : Oper
  xs : Array Operand
  A : List PV
  H : Heap
  Rel : PV → Heap → Prop
  ho : ops[m]? = some o
  hx : ∀ x ∈ xs.toList, x ∈ o.op.operands
  sw : ∀ {K : AS → Prop} {Q : Exit → AS → Prop} {a : AS}, HandOK E ops o xs A H Rel K a → SWO E ops [o] (thenQ K Q) a
def LOpG (E : Env) (S : Specs E) (ops : Array Oper) (M : HandG E ops) (i : Nat) (K : AS → Prop) (a : AS) : Prop := if i = M.m then HandOK E ops M.o M.xs M.A M.H M.Rel K a else LOp E S ops i K a
theorem LOpG.mono {M : HandG E ops} {i : Nat} {K K' : AS → Prop} {a : AS} (hk : ∀ a, K a → K' a) (h : LOpG E S ops M i K a) : LOpG E S ops M i K' a := by
  unfold LOpG at h ⊢
  split
  · rename_i e; rw [if_pos e] at h; exact h.mono hk
  · rename_i e; rw [if_neg e] at h; exact LOp.mono hk h
def LAnyH (E : Env) (S : Specs E) (md : Region.Mode) (ops : Array Oper) (M : HandG E ops) (L1 : Array Bool) (last : Nat) (Q : AS → Prop) : Nat → Array Bool → AS → Prop
  | 0, listed, a => listed = L1 ∧ Region.ready md ops listed = [last] ∧ ∃ c, AEq c a ∧ Q c
  | fuel + 1, listed, a => Region.ready md ops listed ≠ [] ∧ ∀ i ∈ Region.ready md ops listed, LOpG E S ops M i (LAnyH E S md ops M L1 last Q fuel (listed.setIfInBounds i true)) a
theorem AEq.lanyH {M : HandG E ops} {L1 : Array Bool} {last : Nat} {Q : AS → Prop} : ∀ (fuel : Nat) {listed : Array Bool} {a b : AS}, AEq a b → LAnyH E S md ops M L1 last Q fuel listed a → LAnyH E S md ops M L1 last Q fuel listed b
  | 0, _, _, _, e, h => by
    obtain ⟨h1, h2, c, hc, k⟩ := h
    exact ⟨h1, h2, c, hc.trans e, k⟩
  | fuel + 1, _, _, _, e, h => ⟨h.1, fun i hi => by
      have := h.2 i hi
      unfold LOpG at this ⊢
      split
      · rename_i e2; rw [if_pos e2] at this; exact e.handOK (fun _ _ e h => AEq.lanyH fuel e h) this
      · rename_i e2; rw [if_neg e2] at this; exact e.lop (fun _ _ e h => AEq.lanyH fuel e h) this⟩
theorem LAnyH.sound {M : HandG E ops} {L1 : Array Bool} {last f : Nat} {Q : AS → Prop} {R : Exit → AS → Prop} (hQ : ∀ c, Q c → RestOK E md ops R f L1 c) : ∀ (fuel : Nat) {listed : Array Bool} {a : AS}, LAnyH E S md ops M L1 last Q fuel listed a → RestOK E md ops R (fuel + f) listed a
  | 0, listed, a, h => by
    obtain ⟨rfl, _, c, hc, k⟩ := h
    intro w I G act g r w0 I0 G0 h0 s
    rw [Nat.zero_add]
    exact hQ c k w I G act (by rw [hc.2.1]; exact g) (r.same hc.1 hc.2.2) w0 I0 G0 h0 (by rw [hc.2.1]; exact s)
  | fuel + 1, listed, a, h => by
    intro w I G act g r w0 I0 G0 h0 s
    rw [Nat.add_right_comm]
    refine ⟨fun e => absurd e h.1, fun i hi => ?_⟩
    have h1 := h.2 i hi
    unfold LOpG at h1
    by_cases hm : i = M.m
    · rw [if_pos hm] at h1
      have hs : SWO E ops [M.o] (thenQ (LAnyH E S md ops M L1 last Q fuel (listed.setIfInBounds i true)) R) a := M.sw h1
      have h4 := hs w I G act g r
      unfold wpList at h4
      unfold wpOp
      rw [hm, M.ho]
      dsimp only
      have k1 : ∀ act' w', wpList E.P ops (Post E w I G a.h (thenQ (LAnyH E S md ops M L1 last Q fuel (listed.setIfInBounds i true)) R)) [] act' w' → wpAny E.P md ops (Post E w0 I0 G0 h0 R) (fuel + f) (listed.setIfInBounds M.m true) act' w' := fun act' w' ⟨b, I', G', g', r', s', q⟩ => by
        rw [← hm]
        exact LAnyH.sound hQ fuel q w' I' G' act' g' r' w0 I0 G0 h0 (s.trans s')
      have k2 : ∀ e act' w', e ≠ .normal → Post E w I G a.h (thenQ (LAnyH E S md ops M L1 last Q fuel (listed.setIfInBounds i true)) R) e act' w' → Post E w0 I0 G0 h0 R e act' w' := fun e act' w' hne ⟨b, I', G', g', r', s', q⟩ => by
        refine ⟨b, I', G', g', r', s.trans s', ?_⟩
        cases e <;> first | exact absurd rfl hne | exact q
      split
      · rename_i hw
        rw [if_pos hw] at h4
        rcases h4 with h4 | ⟨h5, a', w', h6⟩
        · exact .inl (upon_mono_but k1 k2 h4)
        · exact .inr ⟨h5, a', w', k2 _ _ _ (fun e => by cases e) h6⟩
      · rename_i hw
        rw [if_neg hw] at h4
        exact k1 _ _ h4
    · rw [if_neg hm] at h1
      unfold LOp at h1
      unfold wpOp
      split
      · rename_i e
        rw [e] at h1
        exact LAnyH.sound hQ fuel h1 w I G act g r w0 I0 G0 h0 s
      · rename_i o e
        rw [e] at h1
        obtain ⟨hd, h1⟩ := h1
        cases hw : wantedA ops a o with
        | none => rw [hw] at h1; simp at h1
        | some b =>
          rw [hw] at h1
          cases b with
          | true =>
            rw [if_pos rfl] at h1
            rw [if_pos (r.wanted hw)]
            exact .inl (step1_wp hd h1 g r fun a' act' w' I' G' g' r' s' k => LAnyH.sound hQ fuel k w' I' G' act' g' r' w0 I0 G0 h0 (s.trans s'))
          | false =>
            rw [if_neg (by simp), if_pos rfl] at h1
            rw [if_neg (by rw [r.wanted hw]; simp)]
            have hh : (a.put o.dst (.tuple [])).h = a.h := put_h a _ _
            exact LAnyH.sound hQ fuel h1 w I G _ (by rw [hh]; exact g) (r.put hd ⟨[], rfl, rfl⟩) w0 I0 G0 h0 (by rw [hh]; exact s)
theorem LAnyH.first {M : HandG E ops} {L1 : Array Bool} {last : Nat} {Q : AS → Prop} {i : Nat} {oi : Oper} {v : PV} (hi : ops[i]? = some oi) (him : i ≠ M.m) (hw0 : waits md ops i ops.size last = true) (hq : quietOp S oi.op = true) {P : AS → Prop}
    (hPk : ∀ k ok, ops[k]? = some ok → k ≠ i → oi.apart ops ok = true → ∀ a u h', P a → P { a.put ok.dst u with h := h' })
    (hPm : waits md ops i ops.size M.m = false → ∀ a, P a → a.h = M.H → ∀ p h', M.Rel p h' → px E S (a.eval E) h' oi.op = px E S (a.eval E) a.h oi.op) :
    ∀ (fuel : Nat) (listed : Array Bool) (a : AS),
      (∀ j oj, ops[j]? = some oj → j ≠ i → listed.getD j true = false → waits md ops i ops.size j = false → oi.apart ops oj = true ∧ (j ≠ M.m → (isLoad oi.op && hxOp S oj.op) = false)) →
      Closed md ops listed → i ∈ Region.ready md ops listed → LY E S ops oi v a → P a →
      LAnyH E S md ops M L1 last Q fuel (listed.setIfInBounds i true) (a.put oi.dst v) → LAnyH E S md ops M L1 last Q (fuel + 1) listed a := by
  intro fuel
  have front : ∀ {K : AS → Prop} {a : AS}, LY E S ops oi v a → K (a.put oi.dst v) → LOpG E S ops M i K a := fun hy H => by
    unfold LOpG
    rw [if_neg him]
    exact hy.lop hi hq H
  induction fuel with
  | zero =>
    intro listed a _ hcl hr hy _ H
    refine ⟨fun h => (by rw [h] at hr; cases hr), fun j hj => ?_⟩
    by_cases hji : j = i
    · subst hji; exact front hy H
    · have h1 := ready_mono hj hji
      rw [H.2.1] at h1
      obtain rfl : j = last := by simpa using h1
      obtain ⟨_, oj, hoj, hall⟩ := mem_ready.1 hj
      have hi0 : listed.getD i false = false := by
        have h0 := (mem_ready.1 hr).1
        rcases Nat.lt_or_ge i listed.size with h' | h'
        · simp [h'] at h0 ⊢; exact h0
        · simp [Array.getElem?_eq_none h'] at h0
      rw [waits_no hcl hi0 _ _ _ hoj hall] at hw0
      cases hw0
  | succ fuel ih =>
    intro listed a hfree hcl hr hy hPa H
    refine ⟨fun h => (by rw [h] at hr; cases hr), fun j hj => ?_⟩
    by_cases hji : j = i
    · subst hji; exact front hy H
    · have h1 := H.2 j (ready_mono hj hji)
      obtain ⟨hjun, oj, hoj, hall⟩ := mem_ready.1 hj
      have hi0 : listed.getD i false = false := by
        have h0 := (mem_ready.1 hr).1
        rcases Nat.lt_or_ge i listed.size with h' | h'
        · simp [h'] at h0 ⊢; exact h0
        · simp [Array.getElem?_eq_none h'] at h0
      have hnot : waits md ops i ops.size j = false := waits_no hcl hi0 _ _ _ hoj hall
      obtain ⟨hap, hls⟩ := hfree j oj hoj hji hjun hnot
      have hfree' : ∀ k ok, ops[k]? = some ok → k ≠ i → (listed.setIfInBounds j true).getD k true = false →
          waits md ops i ops.size k = false → oi.apart ops ok = true ∧ (k ≠ M.m → (isLoad oi.op && hxOp S ok.op) = false) := fun k ok hk hki hun hno => by
        refine hfree k ok hk hki ?_ hno
        by_cases hjk : j = k
        · subst hjk; exact hjun
        · rw [getD_set_ne true hjk] at hun; exact hun
      have go : ∀ a', (LY E S ops oi v a' ∧ P a') ∧ LAnyH E S md ops M L1 last Q fuel ((listed.setIfInBounds i true).setIfInBounds j true) (a'.put oi.dst v) → LAnyH E S md ops M L1 last Q (fuel + 1) (listed.setIfInBounds j true) a' := fun a' h3 => by
        refine ih (listed.setIfInBounds j true) a' hfree' (hcl.step hj) (ready_mono hr (Ne.symm hji)) h3.1.1 h3.1.2 ?_
        rw [Array.setIfInBounds_comm _ _ hji]
        exact h3.2
      unfold LOpG at h1 ⊢
      by_cases hjm : j = M.m
      · rw [if_pos hjm] at h1 ⊢
        obtain rfl : oj = M.o := by
          have := M.ho
          rw [← hjm, hoj] at this
          exact Option.some.inj this
        have hH : a.h = M.H := by have := h1.1; rw [put_h] at this; exact this
        exact HandOK.mono go (HandOK.pastG (S := S) M.hx (fun _ _ e k => AEq.lanyH fuel e k) hap (P := P) (fun u h' => hPk j _ hoj hji hap a u h' hPa) (fun p h' r => hPm (by rw [← hjm]; exact hnot) a hPa hH p h' r) hy h1)
      · rw [if_neg hjm] at h1 ⊢
        exact LOp.mono go (LOp.pastP (P := P) (fun _ _ e k => AEq.lanyH fuel e k) hoj hap (fun u h' => hPk j oj hoj hji hap a u h' hPa) (.inl (hls hjm)) hy h1)
theorem dropKey_idem (s : List (Nat × PV)) (d : Nat) : dropKey (dropKey s d) d = dropKey s d := by
  induction s with
  | nil => rfl
  | cons x l ih =>
    by_cases e : x.1 = d
    · simp only [dropKey, e, if_true]; exact ih
    · simp only [dropKey, e, if_false, ih]
theorem AS.put_put (a : AS) (d : Nat) (v v' : PV) (h' h2 : Heap) : ({ ({ a.put (some d) v with h := h' } : AS).put (some d) v' with h := h2 } : AS) = { a.put (some d) v' with h := h2 } := by
  show ({ n := a.n, s := (d, v') :: dropKey ((d, v) :: dropKey a.s d) d, h := h2 } : AS) = { n := a.n, s := (d, v') :: dropKey a.s d, h := h2 }
  simp only [dropKey, if_true, dropKey_idem]
def SwapOK (f : PV → PV) : Prop := ∀ (w : World) (I I' : Nat → Prop) (v v' : PV), Keeps w I w I' → (∀ u, R1 w I v u → R1 w I' v' u) → ∀ u, R w I (f v) u → R w I' (f v') u
theorem RE.swap1 {w : World} {I I' : Nat → Prop} {sz : Nat} {v v' : PV} (hk : Keeps w I w I') (hv : ∀ u, R1 w I v u → R1 w I' v' u) (pre post : List PV) (rows : List (List PV)) : ∀ us, RE w I sz ((pre ++ v :: post) :: rows) us → RE w I' sz ((pre ++ v' :: post) :: rows) us := by
  rintro us ⟨u1, u2, rfl, h1, h2, h3⟩
  exact ⟨u1, u2, rfl, h1, RL.swap hk hv pre post u1 h2, RE.keeps hk _ _ _ h3⟩
theorem SwapOK.list (sz : Nat) (pre post : List PV) (rows : List (List PV)) : SwapOK fun v => .list sz ((pre ++ v :: post) :: rows) := by
  intro w I I' v v' hk hv u hu
  obtain ⟨A, c, us, rfl, h1, h2, h3, h4⟩ := R_list hu
  show R1 w I' (.list sz ((pre ++ v' :: post) :: rows)) _
  simp only [R1]
  exact ⟨A, c, us, by simp, by simpa using h1, h2, RE.swap1 hk hv pre post rows us h3, h4.keeps hk⟩
end
end Go.Proofs.YtpgnfbdkhakbdaaGreatDoor.Lift

namespace Go.Proofs.YtpgnfbdkhakbdaaGreatDoor.Lift
open Go Go.RowKit
section
variable {E : Env} {w w1 w' : World} {I I1 I' : Nat → Prop} {G G1 G' : Nat → Option Nat} {h h' : Heap}
end
end Go.Proofs.YtpgnfbdkhakbdaaGreatDoor.Lift

namespace Go.Proofs.YtpgnfbdkhakbdaaGreatDoor.Lift
open Go Go.RowKit
section
variable {E : Env} {w w1 w' : World} {I I1 I' : Nat → Prop} {G G1 G' : Nat → Option Nat} {h h' : Heap}

end
end Go.Proofs.YtpgnfbdkhakbdaaGreatDoor.Lift

namespace Go.Proofs.YtpgnfbdkhakbdaaGreatDoor.Lift
open Go Go.RowKit
section
variable {E : Env} {S : Specs E} {ops : Array Oper}
end
end Go.Proofs.YtpgnfbdkhakbdaaGreatDoor.Lift

namespace Go.Proofs.YtpgnfbdkhakbdaaGreatDoor.Lift
open Go Go.RowKit
section
variable {E : Env} {S : Specs E} {ops : Array Oper}
theorem Yld.ifaceNil {a : AS} {t ty : TypeId} {x : Operand} {T : TypeId} {ag : Bool} {cs : List PV} (hx : a.eval E x = .iface T ag cs) {i : TyI} (ht : E.ty t = some i) (hk : i.k = .iface) : Yld E a (.binOp .eql t x (.const .nilIface) ty) (.bool false) := by
  have hdt := ty_under ht
  rw [hk] at hdt
  obtain ⟨ms, hdt⟩ := hdt
  intro w I G act o ho g r
  have h1 := r.eval g x
  rw [hx] at h1
  obtain ⟨us, h1, _⟩ : ∃ us, act.eval x = .iface T (ofCells ag us) ∧ RL w I cs us := h1
  have heq : (Op.equal t (.iface T (ofCells ag us)) .nilIface).run E.P w = .ok false w := by
    obtain ⟨d, eqn⟩ : ∃ d, ∀ u1 u2, Op.equal t u1 u2 = Op.equalIn (d + 1) t u1 u2 := ⟨9999, fun _ _ => rfl⟩
    rw [eqn]
    simp [Op.equalIn, run_underlying hdt]
  refine ⟨.bool false, ?_, rfl⟩
  have h2 : act.eval (.const .nilIface) = .nilIface := rfl
  have hb : Go.binOp .eql t (.iface T (ofCells ag us)) .nilIface = (do pure (.bool (← Op.equal t (.iface T (ofCells ag us)) .nilIface))) := rfl
  simp [execOp, ho, h1, h2, eqGuard, hb, heq]
theorem SWO.ifaceNil {o : Oper} {rest : List Oper} {Q : Exit → AS → Prop} {a : AS} (t ty : TypeId) (x : Operand) (hop : o.op = .binOp .eql t x (.const .nilIface) ty) {T : TypeId} {ag : Bool} {cs : List PV} (hx : a.eval E x = .iface T ag cs) {i : TyI} (ht : E.ty t = some i) (hk : i.k = .iface)
    (hg : wantedA ops a o = some true) (hd : okDst a.n o.dst = true) (k : SWO E ops rest Q (a.put o.dst (.bool false))) : SWO E ops (o :: rest) Q a :=
  SWO.yld (by rw [hop]; exact Yld.ifaceNil hx ht hk) hg hd k
end
end Go.Proofs.YtpgnfbdkhakbdaaGreatDoor.Lift

namespace Go.Proofs.YtpgnfbdkhakbdaaGreatDoor.Lift
open Go Go.RowKit
variable {E : Env} {w w' : World} {I : Nat → Prop} {G : Nat → Option Nat} {h : Heap}

end Go.Proofs.YtpgnfbdkhakbdaaGreatDoor.Lift

namespace Go.Proofs.YtpgnfbdkhakbdaaGreatDoor.Lift
open Go Go.RowKit
variable {E : Env} {h : Heap}

theorem Good.all {w : World} {I : Nat → Prop} {G : Nat → Option Nat} (g : Good E w I G h) : Good E w (fun b => b < w.heap.size) (fun _ => none) noHeap := by
  have hk : Keeps w I w (fun b => b < w.heap.size) := fun k hk => ⟨g.imm k hk, rfl⟩
  exact ⟨fun r o e => (nomatch e), fun k r e => (nomatch e), fun k e => e, fun g0 cs e => R1.keeps hk _ _ (g.glob g0 cs e), E.keepW _ _ _ _ hk g.inv⟩
end Go.Proofs.YtpgnfbdkhakbdaaGreatDoor.Lift

namespace Go.Proofs.YtpgnfbdkhakbdaaGreatDoor.Lift
open Go Go.RowKit

section
variable {E : Env} {S : Specs E} {w w1 w' : World} {I I1 I' : Nat → Prop} {G G1 G' : Nat → Option Nat} {h : Heap} {ops : Array Oper} {md : Region.Mode}
end
end Go.Proofs.YtpgnfbdkhakbdaaGreatDoor.Lift

namespace Go.Proofs.YtpgnfbdkhakbdaaGreatDoor.Lift
open Go Go.RowKit
variable {E : Env} {h : Heap}

end Go.Proofs.YtpgnfbdkhakbdaaGreatDoor.Lift

namespace Go.Proofs.YtpgnfbdkhakbdaaGreatDoor.Lift
open Go Go.RowKit
section
variable {E : Env} {S : Specs E} {md : Region.Mode} {ops : Array Oper} {w w1 w' : World} {I I1 I' : Nat → Prop} {G G1 G' : Nat → Option Nat} {h h' : Heap}
end
end Go.Proofs.YtpgnfbdkhakbdaaGreatDoor.Lift

namespace Go.Proofs.YtpgnfbdkhakbdaaGreatDoor.Lift
open Go Go.RowKit
section
variable {E : Env} {S : Specs E} {ops : Array Oper}
theorem Yld.sliceArr {a : AS} {t : TypeId} {x : Operand} {r : Nat} (hx : a.eval E x = .val (.pointer (some ⟨r, 0, none⟩))) {i : TyI} (ht : E.ty t = some i) {n : Nat} {e : TypeId} (hk : i.k = .array n e) {ie : TyI} (he : E.ty e = some ie) (hn : n ≠ 0) : Yld E a (.slice t x none none none) (.val (.slice (some ⟨r, 0, none⟩) n n)) := by
  have hdt := ty_under ht
  rw [hk] at hdt
  intro w I G act o ho g rs
  have h1 := rs.eval g x
  rw [hx] at h1
  have h1 : act.eval x = .pointer (some ⟨r, 0, none⟩) := R_val h1
  have hdt : E.P.underlying t = some (.array n e) := hdt
  refine ⟨.slice (some ⟨r, 0, none⟩) n n, ?_, rfl, rfl⟩
  have hs := ty_sizeOf he w
  have ha : (⟨r, 0, none⟩ : Addr).add 0 = ⟨r, 0, none⟩ := by unfold Addr.add; split <;> simp_all
  simp [execOp, ho, h1, Instr.sliceAt, run_underlying hdt, Instr.sureAddr, Instr.sliceBounds, hs, hn, ha]
theorem SWO.sliceArr {o : Oper} {rest : List Oper} {Q : Exit → AS → Prop} {a : AS} (t : TypeId) (x : Operand) (hop : o.op = .slice t x none none none) {r : Nat} (hx : a.eval E x = .val (.pointer (some ⟨r, 0, none⟩))) {i : TyI} (ht : E.ty t = some i) {n : Nat} {e : TypeId} (hk : i.k = .array n e) {ie : TyI} (he : E.ty e = some ie) (hn : n ≠ 0)
    (hg : wantedA ops a o = some true) (hd : okDst a.n o.dst = true) (k : SWO E ops rest Q (a.put o.dst (.val (.slice (some ⟨r, 0, none⟩) n n)))) : SWO E ops (o :: rest) Q a :=
  SWO.yld (by rw [hop]; exact Yld.sliceArr hx ht hk he hn) hg hd k
end
end Go.Proofs.YtpgnfbdkhakbdaaGreatDoor.Lift
