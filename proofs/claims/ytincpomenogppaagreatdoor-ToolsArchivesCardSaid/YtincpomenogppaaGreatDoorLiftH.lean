/- What is owned, and stands in a cell of an owned block, is let go: the cell is a list. -/
import Derived.Test.YtincpomenogppaaGreatDoorLiftF
import Derived.Test.YtincpomenogppaaGreatDoorLiftW
import Derived.Laws.AppendOwn
import Derived.Test.YtincpomenogppaaGreatDoorLiftQ
set_option linter.unusedSimpArgs false
set_option linter.unusedVariables false
namespace Go.Proofs.YtincpomenogppaaGreatDoor.Lift
open Go Go.RowKit
section
variable {E : Env} {w : World} {I : Nat → Prop} {G : Nat → Option Nat} {h : Heap}
theorem Good.recell (g : Good E w I G h) {q : Nat} {t : TypeId} {size : Nat} {cs cs' : List PV} (hq : h q = some (.cells t size cs)) (hr : ∀ us, RL w I cs us → RL w I cs' us) :
    Good E w I G (h.put q (.cells t size cs')) ∧ Stp E.mono w I G h w I G (h.put q (.cells t size cs')) :=
  g.write hq rfl rfl (fun _ _ => rfl) rfl rfl rfl (by
    obtain ⟨_, _, _, us, rest, h1, h2, h3⟩ := g.own q _ hq
    exact ⟨us, rest, h1, hr us h2, h3⟩)
theorem Good.ownAt {h1 H : Heap} (g : Good E w I G H) {e t : TypeId} {sz size q : Nat} {xs : List (List PV)} {v : PV} {pre post : List PV} (o : Own h1 e sz xs v H) (hq : h1 q = some (.cells t size (pre ++ v :: post))) :
    ∃ I' G', Good E w I' G' (h1.put q (.cells t size (pre ++ .list sz xs :: post))) ∧ Stp E.mono w I G H w I' G' (h1.put q (.cells t size (pre ++ .list sz xs :: post))) ∧ Keeps w I w I' := by
  obtain ⟨I', G', g', s, hk, hr⟩ := o.letGo1 g
  have hv : ∀ u, R1 w I' v u → R1 w I' (.list sz xs) u := fun u hu => hr u (by
    rcases o with ⟨rfl, _⟩ | ⟨_, _, rfl, _⟩ <;> exact hu)
  obtain ⟨g2, s2⟩ := g'.recell hq (cs' := pre ++ .list sz xs :: post) (fun us hu => RL.swap (fun k hk => ⟨hk, rfl⟩) hv pre post us hu)
  exact ⟨I', G', g2, s.trans s2, hk⟩
theorem SW.ownAt {c : Code} {Q : Exit → AS → Prop} {a : AS} {h1 : Heap} (q : Nat) {e t : TypeId} {sz size : Nat} {xs : List (List PV)} {v : PV} {pre post : List PV} (o : Own h1 e sz xs v a.h) (hq : h1 q = some (.cells t size (pre ++ v :: post)))
    (k : SW E c Q { a with h := h1.put q (.cells t size (pre ++ .list sz xs :: post)) }) : SW E c Q a := by
  intro w I G act g r
  obtain ⟨I', G', g', s, hk⟩ := g.ownAt o hq
  have r' : RS E w I' { a with h := h1.put q (.cells t size (pre ++ .list sz xs :: post)) } act := ⟨r.defers, r.size, fun t => R.keeps hk _ _ (r.slot t)⟩
  exact wp_mono (k w _ _ act g' r') fun _ _ _ p => p.trans s
theorem SWO.ownAt {ops : Array Oper} {rest : List Oper} {Q : Exit → AS → Prop} {a : AS} {h1 : Heap} (q : Nat) {e t : TypeId} {sz size : Nat} {xs : List (List PV)} {v : PV} {pre post : List PV} (o : Own h1 e sz xs v a.h) (hq : h1 q = some (.cells t size (pre ++ v :: post)))
    (k : SWO E ops rest Q { a with h := h1.put q (.cells t size (pre ++ .list sz xs :: post)) }) : SWO E ops rest Q a := by
  intro w I G act g r
  obtain ⟨I', G', g', s, hk⟩ := g.ownAt o hq
  have r' : RS E w I' { a with h := h1.put q (.cells t size (pre ++ .list sz xs :: post)) } act := ⟨r.defers, r.size, fun t => R.keeps hk _ _ (r.slot t)⟩
  exact wpList_mono (fun _ _ _ p => p.trans s) _ _ _ (k w _ _ act g' r')
theorem HTo.less {h : Heap} {q : Nat} {t : TypeId} {size : Nat} {cs ds : List PV} (hq : h q = some (.cells t size (cs ++ ds))) : HTo E h (h.put q (.cells t size cs)) := fun w I G g => by
  obtain ⟨_, _, _, us, rest, h1, h2, h3⟩ := g.own q _ hq
  have : ∃ u1 u2, us = u1 ++ u2 ∧ RL w I cs u1 ∧ RL w I ds u2 := by
    clear h1 h3 hq
    induction cs generalizing us with
    | nil => exact ⟨[], us, rfl, rfl, h2⟩
    | cons x cs ih =>
      obtain ⟨u, us', rfl, hu, h2⟩ := h2
      obtain ⟨u1, u2, rfl, k1, k2⟩ := ih us' h2
      exact ⟨u :: u1, u2, rfl, ⟨u, u1, rfl, hu, k1⟩, k2⟩
  obtain ⟨u1, u2, rfl, k1, k2⟩ := this
  obtain ⟨g', s⟩ := g.write (w' := w) (ob := .cells t size cs) hq rfl rfl (fun _ _ => rfl) rfl rfl rfl ⟨u1, u2 ++ rest, by rw [h1, List.append_assoc], k1, by simp at h3 ⊢; omega⟩
  exact ⟨I, G, g', s⟩
end
end Go.Proofs.YtincpomenogppaaGreatDoor.Lift

namespace Go.Proofs.YtincpomenogppaaGreatDoor.Lift
open Go Go.RowKit
section
variable {E : Env} {S : Specs E} {md : Region.Mode} {ops : Array Oper} {w w1 w' : World} {I I1 I' : Nat → Prop} {G G1 G' : Nat → Option Nat} {h h' : Heap}
theorem HandOK.pastG {o oi : Oper} {xs : Array Operand} {A : List PV} {H : Heap} {Rel : PV → Heap → Prop} {v : PV} {a : AS} {K : AS → Prop} (hx0 : ∀ x ∈ xs.toList, x ∈ o.op.operands) (hK : ∀ a b, AEq a b → K a → K b) (hap : oi.apart ops o = true)
    {P : AS → Prop} (hP : ∀ u h', P { a.put o.dst u with h := h' }) (hls : ∀ p h', Rel p h' → px E S (a.eval E) h' oi.op = px E S (a.eval E) a.h oi.op)
    (hy : LY E S ops oi v a) (hs : HandOK E ops o xs A H Rel K (a.put oi.dst v)) : HandOK E ops o xs A H Rel (fun a' => (LY E S ops oi v a' ∧ P a') ∧ K (a'.put oi.dst v)) a := by
  obtain ⟨h1, h2, h3⟩ := Oper.apart_spec hap
  have hn : ∀ (d : Option Tmp) (v : PV), (a.put d v).n = a.n := fun d v => by cases d <;> rfl
  have keep : ∀ (u : PV) (h' : Heap), ((px E S (a.eval E) a.h oi.op).1 → px E S (a.eval E) h' oi.op = px E S (a.eval E) a.h oi.op) → LY E S ops oi v { a.put o.dst u with h := h' } := fun u h' hh => by
    refine ⟨(congrArg (fun n => okDst n oi.dst) (hn o.dst u)).trans hy.1, ?_⟩
    have hw : wantedA ops { a.put o.dst u with h := h' } oi = wantedA ops a oi := (wanted_putA (v := u) h3 : wantedA ops (a.put o.dst u) oi = wantedA ops a oi)
    have hp : px E S (AS.eval E { a.put o.dst u with h := h' }) h' oi.op = px E S (a.eval E) h' oi.op := by
      have : AS.eval E { a.put o.dst u with h := h' } = (a.put o.dst u).eval E := by funext x; cases x <;> rfl
      rw [this]
      exact px_put h3
    rw [hw]
    show (_ ∧ (px E S (AS.eval E { a.put o.dst u with h := h' }) h' oi.op).1 ∧ v = (px E S (AS.eval E { a.put o.dst u with h := h' }) h' oi.op).2) ∨ _
    rw [hp]
    rcases hy.2 with ⟨hw, hp, rfl⟩ | ⟨hw, rfl⟩
    · rw [hh hp]; exact .inl ⟨hw, hp, rfl⟩
    · exact .inr ⟨hw, rfl⟩
  have swap : ∀ (u : PV) (h' : Heap), K { (a.put oi.dst v).put o.dst u with h := h' } → K ({ a.put o.dst u with h := h' }.put oi.dst v) := fun u h' k => by
    have e : ({ a.put o.dst u with h := h' } : AS).put oi.dst v = { (a.put o.dst u).put oi.dst v with h := h' } := by cases oi.dst <;> rfl
    rw [e]
    exact hK _ _ ((put_comm a v u h2).heap h') k
  have heval : ∀ x ∈ o.op.operands, (a.put oi.dst v).eval E x = a.eval E x := fun x hx => eval_put fun t e e2 => h1 t e (by subst e2; exact List.mem_append_left _ (List.mem_filterMap.2 ⟨.tmp t, by simpa using hx, rfl⟩))
  have hev : ∀ x ∈ xs.toList, (a.put oi.dst v).eval E x = a.eval E x := fun x hx => heval x (hx0 x hx)
  have hah : (a.put oi.dst v).h = a.h := put_h a _ _
  obtain ⟨k1, k2, k3, k4, k5, k6⟩ := hs
  rw [hah] at k1
  rw [wanted_putA (v := v) h1] at k4
  rw [hn oi.dst v] at k5
  rw [List.map_congr_left hev] at k3
  have k2' : (xs.toList.all fun x => okArg (a.eval E x)) = true := by
    rw [List.all_eq_true] at k2 ⊢
    intro x hx
    have := k2 x hx
    rw [hev x hx] at this
    exact this
  exact ⟨k1, k2', k3, k4, k5, fun p h' r => ⟨⟨keep p h' fun _ => hls p h' r, hP p h'⟩, swap p h' (k6 p h' r)⟩⟩
structure HandG (E : Env) (ops : Array Oper) where
  m : Nat
  o : Oper
  xs : Array Operand
  A : List PV
  H : Heap
  Rel : PV → Heap → Prop
  ho : ops[m]? = some o
  hx : ∀ x ∈ xs.toList, x ∈ o.op.operands
  sw : ∀ {K : AS → Prop} {Q : Exit → AS → Prop} {a : AS}, HandOK E ops o xs A H Rel K a → SWO E ops [o] (thenQ K Q) a
def LOpG (E : Env) (S : Specs E) (ops : Array Oper) (M : HandG E ops) (i : Nat) (K : AS → Prop) (a : AS) : Prop := if i = M.m then HandOK E ops M.o M.xs M.A M.H M.Rel K a else LOp E S ops i K a
theorem LOpG.mono {M : HandG E ops} {i : Nat} {K K' : AS → Prop} {a : AS} (hk : ∀ a, K a → K' a) (h : LOpG E S ops M i K a) : LOpG E S ops M i K' a := by
  unfold LOpG at h ⊢
  split
  · rename_i e; rw [if_pos e] at h; exact h.mono hk
  · rename_i e; rw [if_neg e] at h; exact LOp.mono hk h
def LAnyH (E : Env) (S : Specs E) (md : Region.Mode) (ops : Array Oper) (M : HandG E ops) (L1 : Array Bool) (last : Nat) (Q : AS → Prop) : Nat → Array Bool → AS → Prop
  | 0, listed, a => listed = L1 ∧ Region.ready md ops listed = [last] ∧ ∃ c, AEq c a ∧ Q c
  | fuel + 1, listed, a => Region.ready md ops listed ≠ [] ∧ ∀ i ∈ Region.ready md ops listed, LOpG E S ops M i (LAnyH E S md ops M L1 last Q fuel (listed.setIfInBounds i true)) a
theorem AEq.lanyH {M : HandG E ops} {L1 : Array Bool} {last : Nat} {Q : AS → Prop} : ∀ (fuel : Nat) {listed : Array Bool} {a b : AS}, AEq a b → LAnyH E S md ops M L1 last Q fuel listed a → LAnyH E S md ops M L1 last Q fuel listed b
  | 0, _, _, _, e, h => by
    obtain ⟨h1, h2, c, hc, k⟩ := h
    exact ⟨h1, h2, c, hc.trans e, k⟩
  | fuel + 1, _, _, _, e, h => ⟨h.1, fun i hi => by
      have := h.2 i hi
      unfold LOpG at this ⊢
      split
      · rename_i e2; rw [if_pos e2] at this; exact e.handOK (fun _ _ e h => AEq.lanyH fuel e h) this
      · rename_i e2; rw [if_neg e2] at this; exact e.lop (fun _ _ e h => AEq.lanyH fuel e h) this⟩
theorem LAnyH.sound {M : HandG E ops} {L1 : Array Bool} {last f : Nat} {Q : AS → Prop} {R : Exit → AS → Prop} (hQ : ∀ c, Q c → RestOK E md ops R f L1 c) : ∀ (fuel : Nat) {listed : Array Bool} {a : AS}, LAnyH E S md ops M L1 last Q fuel listed a → RestOK E md ops R (fuel + f) listed a
  | 0, listed, a, h => by
    obtain ⟨rfl, _, c, hc, k⟩ := h
    intro w I G act g r w0 I0 G0 h0 s
    rw [Nat.zero_add]
    exact hQ c k w I G act (by rw [hc.2.1]; exact g) (r.same hc.1 hc.2.2) w0 I0 G0 h0 (by rw [hc.2.1]; exact s)
  | fuel + 1, listed, a, h => by
    intro w I G act g r w0 I0 G0 h0 s
    rw [Nat.add_right_comm]
    refine ⟨fun e => absurd e h.1, fun i hi => ?_⟩
    have h1 := h.2 i hi
    unfold LOpG at h1
    by_cases hm : i = M.m
    · rw [if_pos hm] at h1
      have hs : SWO E ops [M.o] (thenQ (LAnyH E S md ops M L1 last Q fuel (listed.setIfInBounds i true)) R) a := M.sw h1
      have h4 := hs w I G act g r
      unfold wpList at h4
      unfold wpOp
      rw [hm, M.ho]
      dsimp only
      have k1 : ∀ act' w', wpList E.P ops (Post E w I G a.h (thenQ (LAnyH E S md ops M L1 last Q fuel (listed.setIfInBounds i true)) R)) [] act' w' → wpAny E.P md ops (Post E w0 I0 G0 h0 R) (fuel + f) (listed.setIfInBounds M.m true) act' w' := fun act' w' ⟨b, I', G', g', r', s', q⟩ => by
        rw [← hm]
        exact LAnyH.sound hQ fuel q w' I' G' act' g' r' w0 I0 G0 h0 (s.trans s')
      have k2 : ∀ e act' w', e ≠ .normal → Post E w I G a.h (thenQ (LAnyH E S md ops M L1 last Q fuel (listed.setIfInBounds i true)) R) e act' w' → Post E w0 I0 G0 h0 R e act' w' := fun e act' w' hne ⟨b, I', G', g', r', s', q⟩ => by
        refine ⟨b, I', G', g', r', s.trans s', ?_⟩
        cases e <;> first | exact absurd rfl hne | exact q
      split
      · rename_i hw
        rw [if_pos hw] at h4
        rcases h4 with h4 | ⟨h5, a', w', h6⟩
        · exact .inl (upon_mono_but k1 k2 h4)
        · exact .inr ⟨h5, a', w', k2 _ _ _ (fun e => by cases e) h6⟩
      · rename_i hw
        rw [if_neg hw] at h4
        exact k1 _ _ h4
    · rw [if_neg hm] at h1
      unfold LOp at h1
      unfold wpOp
      split
      · rename_i e
        rw [e] at h1
        exact LAnyH.sound hQ fuel h1 w I G act g r w0 I0 G0 h0 s
      · rename_i o e
        rw [e] at h1
        obtain ⟨hd, h1⟩ := h1
        cases hw : wantedA ops a o with
        | none => rw [hw] at h1; simp at h1
        | some b =>
          rw [hw] at h1
          cases b with
          | true =>
            rw [if_pos rfl] at h1
            rw [if_pos (r.wanted hw)]
            exact .inl (step1_wp hd h1 g r fun a' act' w' I' G' g' r' s' k => LAnyH.sound hQ fuel k w' I' G' act' g' r' w0 I0 G0 h0 (s.trans s'))
          | false =>
            rw [if_neg (by simp), if_pos rfl] at h1
            rw [if_neg (by rw [r.wanted hw]; simp)]
            have hh : (a.put o.dst (.tuple [])).h = a.h := put_h a _ _
            exact LAnyH.sound hQ fuel h1 w I G _ (by rw [hh]; exact g) (r.put hd ⟨[], rfl, rfl⟩) w0 I0 G0 h0 (by rw [hh]; exact s)
theorem LAnyH.first {M : HandG E ops} {L1 : Array Bool} {last : Nat} {Q : AS → Prop} {i : Nat} {oi : Oper} {v : PV} (hi : ops[i]? = some oi) (him : i ≠ M.m) (hw0 : waits md ops i ops.size last = true) (hq : quietOp S oi.op = true) {P : AS → Prop}
    (hPk : ∀ k ok, ops[k]? = some ok → k ≠ i → oi.apart ops ok = true → ∀ a u h', P a → P { a.put ok.dst u with h := h' })
    (hPm : waits md ops i ops.size M.m = false → ∀ a, P a → a.h = M.H → ∀ p h', M.Rel p h' → px E S (a.eval E) h' oi.op = px E S (a.eval E) a.h oi.op) :
    ∀ (fuel : Nat) (listed : Array Bool) (a : AS),
      (∀ j oj, ops[j]? = some oj → j ≠ i → listed.getD j true = false → waits md ops i ops.size j = false → oi.apart ops oj = true ∧ (j ≠ M.m → (isLoad oi.op && hxOp S oj.op) = false)) →
      Closed md ops listed → i ∈ Region.ready md ops listed → LY E S ops oi v a → P a →
      LAnyH E S md ops M L1 last Q fuel (listed.setIfInBounds i true) (a.put oi.dst v) → LAnyH E S md ops M L1 last Q (fuel + 1) listed a := by
  intro fuel
  have front : ∀ {K : AS → Prop} {a : AS}, LY E S ops oi v a → K (a.put oi.dst v) → LOpG E S ops M i K a := fun hy H => by
    unfold LOpG
    rw [if_neg him]
    exact hy.lop hi hq H
  induction fuel with
  | zero =>
    intro listed a _ hcl hr hy _ H
    refine ⟨fun h => (by rw [h] at hr; cases hr), fun j hj => ?_⟩
    by_cases hji : j = i
    · subst hji; exact front hy H
    · have h1 := ready_mono hj hji
      rw [H.2.1] at h1
      obtain rfl : j = last := by simpa using h1
      obtain ⟨_, oj, hoj, hall⟩ := mem_ready.1 hj
      have hi0 : listed.getD i false = false := by
        have h0 := (mem_ready.1 hr).1
        rcases Nat.lt_or_ge i listed.size with h' | h'
        · simp [h'] at h0 ⊢; exact h0
        · simp [Array.getElem?_eq_none h'] at h0
      rw [waits_no hcl hi0 _ _ _ hoj hall] at hw0
      cases hw0
  | succ fuel ih =>
    intro listed a hfree hcl hr hy hPa H
    refine ⟨fun h => (by rw [h] at hr; cases hr), fun j hj => ?_⟩
    by_cases hji : j = i
    · subst hji; exact front hy H
    · have h1 := H.2 j (ready_mono hj hji)
      obtain ⟨hjun, oj, hoj, hall⟩ := mem_ready.1 hj
      have hi0 : listed.getD i false = false := by
        have h0 := (mem_ready.1 hr).1
        rcases Nat.lt_or_ge i listed.size with h' | h'
        · simp [h'] at h0 ⊢; exact h0
        · simp [Array.getElem?_eq_none h'] at h0
      have hnot : waits md ops i ops.size j = false := waits_no hcl hi0 _ _ _ hoj hall
      obtain ⟨hap, hls⟩ := hfree j oj hoj hji hjun hnot
      have hfree' : ∀ k ok, ops[k]? = some ok → k ≠ i → (listed.setIfInBounds j true).getD k true = false →
          waits md ops i ops.size k = false → oi.apart ops ok = true ∧ (k ≠ M.m → (isLoad oi.op && hxOp S ok.op) = false) := fun k ok hk hki hun hno => by
        refine hfree k ok hk hki ?_ hno
        by_cases hjk : j = k
        · subst hjk; exact hjun
        · rw [getD_set_ne true hjk] at hun; exact hun
      have go : ∀ a', (LY E S ops oi v a' ∧ P a') ∧ LAnyH E S md ops M L1 last Q fuel ((listed.setIfInBounds i true).setIfInBounds j true) (a'.put oi.dst v) → LAnyH E S md ops M L1 last Q (fuel + 1) (listed.setIfInBounds j true) a' := fun a' h3 => by
        refine ih (listed.setIfInBounds j true) a' hfree' (hcl.step hj) (ready_mono hr (Ne.symm hji)) h3.1.1 h3.1.2 ?_
        rw [Array.setIfInBounds_comm _ _ hji]
        exact h3.2
      unfold LOpG at h1 ⊢
      by_cases hjm : j = M.m
      · rw [if_pos hjm] at h1 ⊢
        obtain rfl : oj = M.o := by
          have := M.ho
          rw [← hjm, hoj] at this
          exact Option.some.inj this
        have hH : a.h = M.H := by have := h1.1; rw [put_h] at this; exact this
        exact HandOK.mono go (HandOK.pastG (S := S) M.hx (fun _ _ e k => AEq.lanyH fuel e k) hap (P := P) (fun u h' => hPk j _ hoj hji hap a u h' hPa) (fun p h' r => hPm (by rw [← hjm]; exact hnot) a hPa hH p h' r) hy h1)
      · rw [if_neg hjm] at h1 ⊢
        exact LOp.mono go (LOp.pastP (P := P) (fun _ _ e k => AEq.lanyH fuel e k) hoj hap (fun u h' => hPk j oj hoj hji hap a u h' hPa) (.inl (hls hjm)) hy h1)
theorem dropKey_idem (s : List (Nat × PV)) (d : Nat) : dropKey (dropKey s d) d = dropKey s d := by
  induction s with
  | nil => rfl
  | cons x l ih =>
    by_cases e : x.1 = d
    · simp only [dropKey, e, if_true]; exact ih
    · simp only [dropKey, e, if_false, ih]
theorem AS.put_put (a : AS) (d : Nat) (v v' : PV) (h' h2 : Heap) : ({ ({ a.put (some d) v with h := h' } : AS).put (some d) v' with h := h2 } : AS) = { a.put (some d) v' with h := h2 } := by
  show ({ n := a.n, s := (d, v') :: dropKey ((d, v) :: dropKey a.s d) d, h := h2 } : AS) = { n := a.n, s := (d, v') :: dropKey a.s d, h := h2 }
  simp only [dropKey, if_true, dropKey_idem]
def SwapOK (f : PV → PV) : Prop := ∀ (w : World) (I I' : Nat → Prop) (v v' : PV), Keeps w I w I' → (∀ u, R1 w I v u → R1 w I' v' u) → ∀ u, R w I (f v) u → R w I' (f v') u
theorem RE.swap1 {w : World} {I I' : Nat → Prop} {sz : Nat} {v v' : PV} (hk : Keeps w I w I') (hv : ∀ u, R1 w I v u → R1 w I' v' u) (pre post : List PV) (rows : List (List PV)) : ∀ us, RE w I sz ((pre ++ v :: post) :: rows) us → RE w I' sz ((pre ++ v' :: post) :: rows) us := by
  rintro us ⟨u1, u2, rfl, h1, h2, h3⟩
  exact ⟨u1, u2, rfl, h1, RL.swap hk hv pre post u1 h2, RE.keeps hk _ _ _ h3⟩
theorem SwapOK.list (sz : Nat) (pre post : List PV) (rows : List (List PV)) : SwapOK fun v => .list sz ((pre ++ v :: post) :: rows) := by
  intro w I I' v v' hk hv u hu
  obtain ⟨A, c, us, rfl, h1, h2, h3, h4⟩ := R_list hu
  show R1 w I' (.list sz ((pre ++ v' :: post) :: rows)) _
  simp only [R1]
  exact ⟨A, c, us, by simp, by simpa using h1, h2, RE.swap1 hk hv pre post rows us h3, h4.keeps hk⟩
end
end Go.Proofs.YtincpomenogppaaGreatDoor.Lift

namespace Go.Proofs.YtincpomenogppaaGreatDoor.Lift
open Go Go.RowKit
theorem run_append_zeros {P : Program} (w : World) (t tx ty e : TypeId) (i : TypeInfo) (z : Value) (kx : IntKind) (ht : P.underlying t = some (.slice e)) (hx : P.underlying tx = some (.int kx)) (hi : P.info? e = some i) (hz : i.zero = some z)
    (n : Nat) (h0 : 0 < n) (hs : 0 < i.size) (h63 : n ≤ 9223372036854775807) (h48 : n * i.bytes ≤ 281474976710656) (hfit : Builtin.nextslicecap n 0 * i.bytes ≤ 281474976710656) :
    (Builtin.append_ #[t, tx] ty #[.slice none 0 0, .int .i64 n]).run P w =
      .ok (.slice (some ⟨w.heap.size, 0, none⟩) n (grownCap w n 0 e)) (w.drew.alloc (.cells (Builtin.zeroCells z.cells n ++ Builtin.zeroCells z.cells (grownCap w n 0 e - n)) e)) := by
  have hw : IntKind.i64.wrap ((n : Nat) : Int) = ((n : Nat) : Int) := w64 (by omega) (by omega)
  have hn : ¬ ((n : Nat) : Int) < 0 := by omega
  have h48' : ¬ (281474976710656 < ((n : Nat) : Int) * (i.bytes : Int)) := by
    have : ((n * i.bytes : Nat) : Int) ≤ 281474976710656 := by omega
    rw [Int.natCast_mul] at this
    omega
  have hne : ¬ (n * i.size = 0) := by
    intro h
    rcases Nat.mul_eq_zero.1 h with h | h <;> omega
  have hne2 : ¬ (n = 0 ∨ i.size = 0) := by omega
  have h63' : ¬ (9223372036854775807 < ((n : Nat) : Int)) := by omega
  have hf2 : ¬ (281474976710656 < Builtin.nextslicecap n 0 * i.bytes) := by omega
  have hn0 : ¬ n = 0 := by omega
  have hai : ∀ w : World, (asIntOf (Value.int .i64 ((n : Nat) : Int))).run P w = .ok (.i64, ((n : Nat) : Int)) w := fun _ => rfl
  have hle : ¬ ((n : Nat) : Int) ≤ 0 := by omega
  simp [Builtin.append_, run_underlying ht, run_underlying hx, sizeOf, typeInfo, zeroValue, hi, hz, asInt, hai, hle, hw, hn, h48', hne, hne2, hn0, h63', hf2, Question.forced, newRow, grownCap, Builtin.firstCells]
section
variable {E : Env} {w w1 w' : World} {I I1 I' : Nat → Prop} {G G1 G' : Nat → Option Nat} {h h' : Heap}
theorem SWO.appendZ {ops : Array Oper} {o : Oper} {rest : List Oper} {Q : Exit → AS → Prop} {a : AS} (s x : Operand) (t tx : TypeId) (hop : o.op = .call { callee := .builtin .append, args := #[s, x], argTypes := #[t, tx] })
    {i ie ix : TyI} {e : TypeId} {kx : IntKind} (ht : E.ty t = some i) (hk : i.k = .slice e) (he : E.ty e = some ie) (hpos : 0 < ie.size) (hzl : ie.zero.length = ie.size) (htx : E.ty tx = some ix) (hkx : ix.k = .int kx) {n : Nat}
    (hs : a.eval E s = .val (.slice none 0 0)) (hx : a.eval E x = .int .i64 (n : Nat)) (h0 : 0 < n) (hb : n * ie.bytes ≤ 140737488355328) (hm : n ≤ maxLen) (hg : wantedA ops a o = some true) (hd : okDst a.n o.dst = true)
    (k : ∀ r cap, a.h r = none → n ≤ cap → cap ≤ maxLen → SWO E ops rest Q { a.put o.dst (.val (.slice (some ⟨r, 0, none⟩) n cap)) with h := a.h.put r (.cells e (cap * ie.size) []) }) : SWO E ops (o :: rest) Q a := by
  refine SWO.to hg hd fun w I G act g r => ?_
  have hdt := ty_under ht
  rw [hk] at hdt
  have hdx := ty_under htx
  rw [hkx] at hdx
  obtain ⟨inf, z, hi, hisz, hiby, hiz, hzc, _⟩ := ty_info he
  have hs' := R_val (by have := r.eval g s; rw [hs] at this; exact this)
  have hx' := R_int (by have := r.eval g x; rw [hx] at this; exact this)
  have hzsz : z.cells.size = ie.size := by rw [← hzl, ← hzc, Array.length_toList]
  have hr := run_append_zeros (P := E.P) w t tx o.type e inf z kx hdt hdx hi hiz n h0 (by rw [hisz]; exact hpos) (by simp only [maxLen] at hm; omega) (by rw [hiby]; omega) (by rw [hiby]; exact growslice_fits (by omega) (by simpa using hb))
  have hge : n ≤ grownCap w n 0 e := grownCap_ge w n 0 e
  have hexec : (execOp act.eval o).run E.P w = .ok (.value (.slice (some ⟨w.heap.size, 0, none⟩) n (grownCap w n 0 e))) (w.drew.alloc (.cells (Builtin.zeroCells z.cells n ++ Builtin.zeroCells z.cells (grownCap w n 0 e - n)) e)) := by
    simp [execOp, hop, resolve, invoke, builtin, hs', hx', hr]
  have hat := heap_alloc_at w.drew (.cells (Builtin.zeroCells z.cells n ++ Builtin.zeroCells z.cells (grownCap w n 0 e - n)) e)
  have hob : RObj (w.drew.alloc (.cells (Builtin.zeroCells z.cells n ++ Builtin.zeroCells z.cells (grownCap w n 0 e - n)) e)) I G w.heap.size (.cells e (grownCap w n 0 e * ie.size) []) := by
    refine ⟨[], (Builtin.zeroCells z.cells n ++ Builtin.zeroCells z.cells (grownCap w n 0 e - n)).toList, ?_, rfl, ?_⟩
    · refine Eq.trans hat ?_
      simp
    · simp only [List.length_nil, Nat.zero_add, Array.length_toList, Array.size_append, size_zeroCells, hzsz]
      rw [← Nat.add_mul]
      congr 1
      omega
  obtain ⟨g', s'⟩ := g.alloc_own (w' := w.drew.alloc (.cells (Builtin.zeroCells z.cells n ++ Builtin.zeroCells z.cells (grownCap w n 0 e - n)) e)) (by simp) (fun k hk => heap_alloc_lt w.drew _ k hk) rfl rfl rfl hob (fun _ => Nat.le_succ _)
  exact ⟨_, _, _, I, G, _, .val (.slice (some ⟨w.heap.size, 0, none⟩) n (grownCap w n 0 e)), hexec, .inl rfl, g', s', ⟨rfl, rfl⟩, k _ _ g.fresh hge (grownCap_le_maxLen w _ _ e hm)⟩
end
end Go.Proofs.YtincpomenogppaaGreatDoor.Lift

namespace Go.Proofs.YtincpomenogppaaGreatDoor.Lift
open Go Go.RowKit
theorem one_flat {α : Type} (f : α → PV) : ∀ l : List α, (l.map fun n => [f n]).flatten = l.map f
  | [] => rfl
  | x :: l => by rw [List.map_cons, List.flatten_cons, one_flat f l]; rfl
section
variable {E : Env} {w w1 w' : World} {I I1 I' : Nat → Prop} {G G1 G' : Nat → Option Nat} {h h' : Heap}

set_option maxHeartbeats 2000000 in
theorem SWO.runesO {ops : Array Oper} {o : Oper} {rest : List Oper} {Q : Exit → AS → Prop} {a : AS} (s t : TypeId) (x : Operand) (hop : o.op = .convert s t x) {i j je : TyI} {e : TypeId} {l : List UInt8}
    (hs : E.ty s = some i) (hk : i.k = .str) (ht : E.ty t = some j) (hj : j.k = .slice e) (he : E.ty e = some je) (hke : je.k = .int .i32) (hx : a.eval E x = .str l) (hl : l.length ≤ 70368744177664) (hg : wantedA ops a o = some true) (hd : okDst a.n o.dst = true)
    (k : ∀ v h', Own a.h e 1 ((runesOf l).map fun n => [PV.int .i32 n]) v h' → SWO E ops rest Q { a.put o.dst v with h := h' }) : SWO E ops (o :: rest) Q a := by
  refine SWO.to hg hd fun w I G act g r => ?_
  have h1 := r.eval g x
  rw [hx] at h1
  have hds := ty_under hs; rw [hk] at hds
  have hdt := ty_under ht; rw [hj] at hdt
  have hde := ty_under he; rw [hke] at hde
  have hrf : Conv.runesFrom ⟨l.toArray⟩ (⟨l.toArray⟩ : ByteArray).size 0 #[] = ((runesOf l).map (Value.int .i32)).toArray := by
    rw [runesFrom_eq, size_mk]
    simp [runesOf]
  have hlen : (runesOf l).length ≤ l.length := runesAt_len _ _ _
  have hrun := run_runes_of_string (P := E.P) w s t e ⟨l.toArray⟩ hds hdt hde (by rw [hrf]; simp; omega)
  rw [hrf] at hrun
  simp only [List.size_toArray, List.length_map] at hrun
  obtain ⟨cap, hcap⟩ : ∃ cap, cap = grownCap w (runesOf l).length 0 e := ⟨_, rfl⟩
  rw [← hcap] at hrun
  have hge : (runesOf l).length ≤ cap := by rw [hcap]; exact grownCap_ge _ _ _ _
  have hcm : cap ≤ maxLen := by rw [hcap]; exact grownCap_le_maxLen w _ _ e (by simp only [maxLen]; omega)
  have hob : RObj (w.drew.alloc (.cells (((runesOf l).map (Value.int .i32)).toArray ++ Array.replicate (cap - (runesOf l).length) (.int .i32 0)) e)) I G w.heap.size (.cells e (cap * 1) ((runesOf l).map (PV.int .i32))) := by
    refine ⟨(runesOf l).map (Value.int .i32), List.replicate (cap - (runesOf l).length) (.int .i32 0), ?_, RL_ints _ _ _ _, by simp; omega⟩
    refine (heap_alloc_at w.drew _).trans ?_
    congr 2
    apply Array.ext'
    simp
  obtain ⟨g', s'⟩ := g.alloc_own (w' := w.drew.alloc (.cells (((runesOf l).map (Value.int .i32)).toArray ++ Array.replicate (cap - (runesOf l).length) (.int .i32 0)) e)) (by simp) (fun k hk => heap_alloc_lt w.drew _ k hk) rfl rfl rfl hob (fun _ => Nat.le_succ _)
  have hexec : (execOp act.eval o).run E.P w = .ok (.value (.slice (some ⟨w.heap.size, 0, none⟩) (runesOf l).length cap)) (w.drew.alloc (.cells (((runesOf l).map (Value.int .i32)).toArray ++ Array.replicate (cap - (runesOf l).length) (.int .i32 0)) e)) := by
    simp only [execOp, hop, Sem.run_bind, R_str h1, hrun]; rfl
  have how : Own a.h e 1 ((runesOf l).map fun n => [PV.int .i32 n]) (.val (.slice (some ⟨w.heap.size, 0, none⟩) (runesOf l).length cap)) (a.h.put w.heap.size (.cells e (cap * 1) ((runesOf l).map (PV.int .i32)))) :=
    .inr ⟨w.heap.size, cap, by rw [List.length_map], by rw [List.length_map]; exact hge, hcm, g.fresh, by rw [one_flat], fun x hx => by obtain ⟨n, _, rfl⟩ := List.mem_map.1 hx; rfl⟩
  exact ⟨_, _, _, I, G, _, .val (.slice (some ⟨w.heap.size, 0, none⟩) (runesOf l).length cap), hexec, .inl rfl, g', s', ⟨rfl, rfl⟩, k _ _ how⟩
end
end Go.Proofs.YtincpomenogppaaGreatDoor.Lift

namespace Go.Proofs.YtincpomenogppaaGreatDoor.Lift
open Go Go.RowKit
section
variable {E : Env} {S : Specs E} {ops : Array Oper}
end
end Go.Proofs.YtincpomenogppaaGreatDoor.Lift

namespace Go.Proofs.YtincpomenogppaaGreatDoor.Lift
open Go Go.RowKit
section
variable {E : Env} {S : Specs E} {ops : Array Oper}
theorem Yld.ifaceNil {a : AS} {t ty : TypeId} {x : Operand} {T : TypeId} {ag : Bool} {cs : List PV} (hx : a.eval E x = .iface T ag cs) {i : TyI} (ht : E.ty t = some i) (hk : i.k = .iface) : Yld E a (.binOp .eql t x (.const .nilIface) ty) (.bool false) := by
  have hdt := ty_under ht
  rw [hk] at hdt
  obtain ⟨ms, hdt⟩ := hdt
  intro w I G act o ho g r
  have h1 := r.eval g x
  rw [hx] at h1
  obtain ⟨us, h1, _⟩ : ∃ us, act.eval x = .iface T (ofCells ag us) ∧ RL w I cs us := h1
  have heq : (Op.equal t (.iface T (ofCells ag us)) .nilIface).run E.P w = .ok false w := by
    obtain ⟨d, eqn⟩ : ∃ d, ∀ u1 u2, Op.equal t u1 u2 = Op.equalIn (d + 1) t u1 u2 := ⟨9999, fun _ _ => rfl⟩
    rw [eqn]
    simp [Op.equalIn, run_underlying hdt]
  refine ⟨.bool false, ?_, rfl⟩
  have h2 : act.eval (.const .nilIface) = .nilIface := rfl
  have hb : Go.binOp .eql t (.iface T (ofCells ag us)) .nilIface = (do pure (.bool (← Op.equal t (.iface T (ofCells ag us)) .nilIface))) := rfl
  simp [execOp, ho, h1, h2, eqGuard, hb, heq]
theorem SWO.ifaceNil {o : Oper} {rest : List Oper} {Q : Exit → AS → Prop} {a : AS} (t ty : TypeId) (x : Operand) (hop : o.op = .binOp .eql t x (.const .nilIface) ty) {T : TypeId} {ag : Bool} {cs : List PV} (hx : a.eval E x = .iface T ag cs) {i : TyI} (ht : E.ty t = some i) (hk : i.k = .iface)
    (hg : wantedA ops a o = some true) (hd : okDst a.n o.dst = true) (k : SWO E ops rest Q (a.put o.dst (.bool false))) : SWO E ops (o :: rest) Q a :=
  SWO.yld (by rw [hop]; exact Yld.ifaceNil hx ht hk) hg hd k
end
end Go.Proofs.YtincpomenogppaaGreatDoor.Lift

namespace Go.Proofs.YtincpomenogppaaGreatDoor.Lift
open Go Go.RowKit
variable {E : Env} {w w' : World} {I : Nat → Prop} {G : Nat → Option Nat} {h : Heap}

end Go.Proofs.YtincpomenogppaaGreatDoor.Lift

namespace Go.Proofs.YtincpomenogppaaGreatDoor.Lift
open Go Go.RowKit
variable {E : Env} {h : Heap}

def PV.Plain (v : PV) : Prop := ∀ w I u, R w I v u → ∀ w' I', R w' I' v u
theorem plain_int (k : IntKind) (n : Int) : (PV.int k n).Plain := fun _ _ _ h _ _ => h
theorem Good.all {w : World} {I : Nat → Prop} {G : Nat → Option Nat} (g : Good E w I G h) : Good E w (fun b => b < w.heap.size) (fun _ => none) noHeap := by
  have hk : Keeps w I w (fun b => b < w.heap.size) := fun k hk => ⟨g.imm k hk, rfl⟩
  exact ⟨fun r o e => (nomatch e), fun k r e => (nomatch e), fun k e => e, fun g0 cs e => R1.keeps hk _ _ (g.glob g0 cs e), E.keepW _ _ _ _ hk g.inv⟩
theorem SCalls.lend {f : FuncId} {args raw : List PV} {v : PV} (hc : SCalls E f args noHeap (Ret v noHeap)) (hv : v.Plain)
    (k : ∀ w I G vs, Good E w I G h → R0s w I raw vs → R0s w (fun b => b < w.heap.size) args vs) (hm : E.mono = false := by rfl) : SCalls E f raw h (Ret v h) :=
  ⟨hc.1, fun w I G vs g r => by
    refine (hc.2 w _ _ vs g.all (k w I G vs g r)).mono ?_
    rintro e w' ⟨I', G', h', g', s, q⟩
    cases e with
    | returned u =>
      obtain ⟨p, hp, q1, q2⟩ := q
      injection q1 with q1
      subst q1
      have b : Below w.heap.size w w' := ⟨s.os, s.tape, s.output, s.size, fun k hk => (s.keep k hk rfl rfl).1⟩
      obtain ⟨g1, s1⟩ := g.below b hm
      exact ⟨I, G, h, g1, s1, _, hv _ _ _ hp _ _, rfl, rfl⟩
    | panicked c => obtain ⟨q1, _⟩ := q; cases q1
    | outgrown => exact q.elim⟩
theorem R0s.lendTo {w : World} {I I' : Nat → Prop} {x y : PV} (hk : Keeps w I w I') (hr : ∀ u, R0 w I y u → R0 w I' x u) (post : List PV) : ∀ (pre : List PV) (vs : List Value), R0s w I (pre ++ y :: post) vs → R0s w I' (pre ++ x :: post) vs
  | [], _, ⟨u, us, e, h1, h2⟩ => ⟨u, us, e, hr u h1, R0s.keeps hk _ _ h2⟩
  | p :: pre, _, ⟨u, us, e, h1, h2⟩ => ⟨u, us, e, R0.keeps hk _ _ h1, R0s.lendTo hk hr post pre us h2⟩
theorem SCalls.lendOwn {f : FuncId} (pre post : List PV) {v u : PV} {h0 H : Heap} {e : TypeId} {sz : Nat} {xs : List (List PV)} (hc : SCalls E f (pre ++ .list sz xs :: post) noHeap (Ret v noHeap)) (hv : v.Plain) (ow : Own h0 e sz xs u H) (hm : E.mono = false := by rfl) : SCalls E f (pre ++ u :: post) H (Ret v H) :=
  hc.lend hv (fun w I G vs g r => by
    obtain ⟨I', G', g', s, hk, hr⟩ := ow.letGo1 g
    have hk2 : Keeps w I w (fun b => b < w.heap.size) := fun k hk => ⟨g.imm k hk, rfl⟩
    have hk3 : Keeps w I' w (fun b => b < w.heap.size) := fun k hk => ⟨g'.imm k hk, rfl⟩
    refine R0s.lendTo hk2 (fun u0 h0 => ?_) post pre vs r
    have h1 : R1 w I u u0 := by
      rcases ow with ⟨rfl, _⟩ | ⟨_, _, rfl, _⟩ <;> exact h0
    exact R1.keeps hk3 _ _ (hr _ h1)) hm
end Go.Proofs.YtincpomenogppaaGreatDoor.Lift

namespace Go.Proofs.YtincpomenogppaaGreatDoor.Lift
open Go Go.RowKit

section
variable {E : Env} {S : Specs E} {w w1 w' : World} {I I1 I' : Nat → Prop} {G G1 G' : Nat → Option Nat} {h : Heap} {ops : Array Oper} {md : Region.Mode}
theorem LAny.firstQ {Q : AS → Prop} (hQ : ∀ a b, AEq a b → Q a → Q b) {i : Nat} {oi : Oper} {v : PV} (hi : ops[i]? = some oi) (hq : quietOp S oi.op = true) {P : AS → Prop}
    :
    ∀ (fuel : Nat) (listed : Array Bool) (a : AS),
      (∀ k ok, ops[k]? = some ok → k ≠ i → listed.getD k true = false → oi.apart ops ok = true → ∀ a u h', P a → P { a.put ok.dst u with h := h' }) →
      (∀ j oj, ops[j]? = some oj → j ≠ i → listed.getD j true = false → waits md ops i ops.size j = false → oi.apart ops oj = true ∧ ((isLoad oi.op && hxOp S oj.op) = false ∨ ∀ a, P a → px E S (a.eval E) (hx E S (a.eval E) a.h oj.op).2.2 oi.op = px E S (a.eval E) a.h oi.op)) →
      Closed md ops listed → i ∈ Region.ready md ops listed → LY E S ops oi v a → P a →
      LAny E S md ops Q fuel (listed.setIfInBounds i true) (a.put oi.dst v) → LAny E S md ops Q (fuel + 1) listed a := by
  intro fuel
  induction fuel with
  | zero =>
    intro listed a _ _ _ hr hy _ H
    refine ⟨fun h => (by rw [h] at hr; cases hr), fun j hj => ?_⟩
    by_cases hji : j = i
    · subst hji; exact hy.lop hi hq H
    · have := ready_mono hj hji
      rw [H.1] at this
      cases this
  | succ fuel ih =>
    intro listed a hPk hfree hcl hr hy hPa H
    refine ⟨fun h => (by rw [h] at hr; cases hr), fun j hj => ?_⟩
    by_cases hji : j = i
    · subst hji; exact hy.lop hi hq H
    · have h1 := H.2 j (ready_mono hj hji)
      obtain ⟨hjun, oj, hoj, hall⟩ := mem_ready.1 hj
      have hi0 : listed.getD i false = false := by
        have h0 := (mem_ready.1 hr).1
        rcases Nat.lt_or_ge i listed.size with h' | h'
        · simp [h'] at h0 ⊢; exact h0
        · simp [Array.getElem?_eq_none h'] at h0
      have hnot : waits md ops i ops.size j = false := waits_no hcl hi0 _ _ _ hoj hall
      obtain ⟨hap, hls⟩ := hfree j oj hoj hji hjun hnot
      have h2 := LOp.pastP (P := P) (fun _ _ e k => AEq.lany hQ fuel e k) hoj hap (fun u h' => hPk j oj hoj hji hjun hap a u h' hPa) (hls.imp (fun x => x) (fun x => x a hPa)) hy h1
      have hfree' : ∀ k ok, ops[k]? = some ok → k ≠ i → (listed.setIfInBounds j true).getD k true = false →
          waits md ops i ops.size k = false → oi.apart ops ok = true ∧ ((isLoad oi.op && hxOp S ok.op) = false ∨ ∀ a, P a → px E S (a.eval E) (hx E S (a.eval E) a.h ok.op).2.2 oi.op = px E S (a.eval E) a.h oi.op) := fun k ok hk hki hun hno => by
        refine hfree k ok hk hki ?_ hno
        by_cases hjk : j = k
        · subst hjk; exact hjun
        · rw [getD_set_ne true hjk] at hun; exact hun
      have hPk' : ∀ k ok, ops[k]? = some ok → k ≠ i → (listed.setIfInBounds j true).getD k true = false → oi.apart ops ok = true → ∀ a u h', P a → P { a.put ok.dst u with h := h' } := fun k ok hk hki hun => by
        refine hPk k ok hk hki ?_
        by_cases hjk : j = k
        · subst hjk; exact hjun
        · rw [getD_set_ne true hjk] at hun; exact hun
      refine LOp.mono (fun a' h3 => ih (listed.setIfInBounds j true) a' hPk' hfree' (hcl.step (ready_mono hj hji |> fun _ => hj)) (ready_mono hr (Ne.symm hji)) h3.1.1 h3.1.2 ?_) h2
      rw [Array.setIfInBounds_comm _ _ hji]
      exact h3.2

def statS (oi oj : Oper) : Bool :=
  (match oi.op with
   | .load _ (.tmp _) => true
   | _ => false) &&
  (match oj.op with
   | .store _ (.tmp _) _ => true
   | _ => false)
theorem px_disjS {a : AS} {oi oj : Oper} (hs : statS oi oj = true) (hd : disj (a.get (ptrT oi.op)) (a.get (ptrT oj.op))) : px E S (a.eval E) (hx E S (a.eval E) a.h oj.op).2.2 oi.op = px E S (a.eval E) a.h oi.op := by
  unfold statS at hs
  rw [Bool.and_eq_true] at hs
  obtain ⟨h1, h2⟩ := hs
  split at h1
  · rename_i t p hi
    split at h2
    · rename_i t2 p2 x hj
      rw [hi, hj] at hd
      rw [hi, hj]
      simp only [ptrT] at hd
      simp only [px, pload]
      cases E.ty t with
      | none => rfl
      | some i =>
        dsimp only
        split
        · rfl
        · rename_i r o hp
          have hp : a.get p = .val (.pointer (some ⟨r, o, none⟩)) := hp
          rw [hp] at hd
          have : (hx E S (a.eval E) a.h (.store t2 (.tmp p2) x)).2.2 r = a.h r := hx_at fun y hy => by
            have hy : a.get p2 = .val (.pointer (some y)) := hy
            rw [hy] at hd
            exact hd
          rw [this]
        · rfl
    · cases h2
  · cases h1
def jsOK3 (ops : Array Oper) (listed : Array Bool) (i : Nat) (js : List Nat) : Bool :=
  match ops[i]? with
  | some oi => js.all fun j => match ops[j]? with
    | some oj => statS oi oj && (List.range ops.size).all fun k => listed.getD k true || k == i || match ops[k]? with
      | some o => o.dst != some (ptrT oj.op)
      | none => true
    | none => false
  | none => false
def freeL3 (S : Specs E) (md : Region.Mode) (ops : Array Oper) (listed : Array Bool) (i : Nat) (js : List Nat) : Bool :=
  match ops[i]? with
  | none => false
  | some oi => quietOp S oi.op && jsOK3 ops listed i js && (List.range ops.size).all fun j => j == i || listed.getD j true || match ops[j]? with
      | some oj => waits md ops i ops.size j || (oi.apart ops oj && (!(isLoad oi.op && hxOp S oj.op) || js.contains j))
      | none => true
def ordOK3 (S : Specs E) (md : Region.Mode) (ops : Array Oper) : List (Nat × List Nat) → Array Bool → Bool
  | [], listed => (Region.ready md ops listed).isEmpty
  | i :: l, listed => (Region.ready md ops listed).contains i.1 && (ops[i.1]?).isSome && (freeL3 S md ops listed i.1 i.2 || Region.ready md ops listed == [i.1]) && ordOK3 S md ops l (listed.setIfInBounds i.1 true)
theorem wpO3_any {Q : AS → Prop} (hQ : ∀ a b, AEq a b → Q a → Q b) : ∀ (l : List (Nat × List Nat)) (listed : Array Bool) (a : AS), Closed md ops listed → ordOK3 S md ops l listed = true → wpO2 E S ops l Q a → LAny E S md ops Q l.length listed a
  | [], listed, a, _, hB, h => ⟨by simpa [ordOK3] using hB, h⟩
  | (i, js) :: l, listed, a, hcl, hB, h => by
    simp only [ordOK3, Bool.and_eq_true] at hB
    obtain ⟨⟨⟨hr, hi⟩, hf⟩, hB'⟩ := hB
    obtain ⟨oi, hi⟩ := Option.isSome_iff_exists.1 hi
    have hr : i ∈ Region.ready md ops listed := by simpa using hr
    simp only [wpO2] at h
    obtain ⟨hd, h⟩ := h
    rcases Bool.or_eq_true _ _ ▸ hf with hf | hf
    · simp only [freeL3, hi, Bool.and_eq_true, List.all_eq_true, List.mem_range] at hf
      obtain ⟨⟨hq, hjs⟩, hfree⟩ := hf
      simp only [jsOK3, hi, List.all_eq_true] at hjs
      have hpi : ptrAt ops i = ptrT oi.op := by simp only [ptrAt, hi]
      obtain ⟨v, hy, hk⟩ := h.ly hi hq
      refine LAny.firstQ (P := fun a => dynOK ops a i js) hQ hi hq l.length listed a ?_ ?_ hcl hr hy hd (wpO3_any hQ l _ _ (hcl.step hr) hB' hk)
      · intro k ok hok hki hun hap a u h' hP
        refine dynOK_of fun j hj => ?_
        have hst := hjs j hj
        cases hoj : ops[j]? with
        | none => rw [hoj] at hst; cases hst
        | some oj =>
          rw [hoj] at hst
          have hpj : ptrAt ops j = ptrT oj.op := by simp only [ptrAt, hoj]
          have hdj := dynOK_mem hP j hj
          rw [Bool.and_eq_true] at hst
          obtain ⟨hst, s2⟩ := hst
          have hst' := hst
          unfold statS at hst'
          rw [Bool.and_eq_true] at hst'
          obtain ⟨s1, _⟩ := hst'
          have hget : ∀ (t : Tmp), ok.dst ≠ some t → ({ a.put ok.dst u with h := h' } : AS).get t = a.get t := fun t ht => by
            show (a.put ok.dst u).get t = a.get t
            cases hdst : ok.dst with
            | none => rfl
            | some d =>
              rw [hdst] at ht
              rw [AS.get_put, if_neg (fun e => ht (by rw [e]))]
          have n1 : ok.dst ≠ some (ptrAt ops i) := by
            intro e
            refine (Oper.apart_spec hap).2.2 _ e ?_
            rw [hpi]
            split at s1
            · rename_i t p hop
              rw [hop]
              refine List.mem_append_left _ (List.mem_filterMap.2 ⟨.tmp p, ?_, rfl⟩)
              rw [hop]
              simp [Op.operands]
            · cases s1
          have n2 : ok.dst ≠ some (ptrAt ops j) := by
            intro e
            rw [hpj] at e
            rw [List.all_eq_true] at s2
            have := s2 k (List.mem_range.2 (Array.getElem?_eq_some_iff.1 hok).1)
            simp [hun, hki, hok, e] at this
          show disj (({ a.put ok.dst u with h := h' } : AS).get (ptrAt ops i)) (({ a.put ok.dst u with h := h' } : AS).get (ptrAt ops j))
          rw [hget _ n1, hget _ n2]
          exact hdj
      · intro j oj hoj hne hun hno
        have h1 := hfree j (Array.getElem?_eq_some_iff.1 hoj).1
        simp only [hoj, Bool.or_eq_true, beq_iff_eq, hne, false_or, hun, Bool.false_eq_true] at h1
        rcases h1 with h1 | h1
        · rw [hno] at h1; cases h1
        · simp only [Bool.and_eq_true, Bool.or_eq_true, Bool.not_eq_true'] at h1
          refine ⟨h1.1, h1.2.imp (fun x => x) fun hc a hP => ?_⟩
          have hj : j ∈ js := by simpa using hc
          have hst := hjs j hj
          rw [hoj] at hst
          rw [Bool.and_eq_true] at hst
          have hdj := dynOK_mem hP j hj
          have hpj : ptrAt ops j = ptrT oj.op := by simp only [ptrAt, hoj]
          rw [hpi, hpj] at hdj
          exact px_disjS hst.1 hdj
    · have hf : Region.ready md ops listed = [i] := by simpa using hf
      refine ⟨fun e => (by rw [hf] at e; cases e), fun j hj => ?_⟩
      rw [hf] at hj
      have : j = i := by simpa using hj
      subst this
      exact h.mono fun a k => wpO3_any hQ l _ _ (hcl.step hr) hB' k
theorem SW.regionAny3 (S : Specs E) {id : Nat} {l : List Oper} {Q : Exit → AS → Prop} {a : AS} (ls : List (Nat × List Nat)) (hm : E.P.follows .mixedOrders = true) (hlen : ls.length = l.length) (hord : ordOK3 S .any l.toArray ls (Array.replicate l.length false) = true)
    (h : wpO2 E S l.toArray ls (Q .normal) a) : SW E (.region id l.toArray true) Q a := by
  intro w I G act g r
  refine wp_region_any hm ?_
  have h1 : wpO2 E S l.toArray ls (fun b => ∃ c, AEq c b ∧ Q .normal c) a := wpO2.mono (fun c k => ⟨c, .refl c, k⟩) _ h
  have h2 := wpO3_any (md := .any) (fun a b e ⟨c, hc, k⟩ => ⟨c, hc.trans e, k⟩) _ _ _ (Closed.start _ _ _) hord h1
  have hk : Keeps w I { w with drawn := w.drawn + 1 } I := fun k hk => ⟨hk, rfl⟩
  have g' : Good E { w with drawn := w.drawn + 1 } I G a.h := ⟨fun r o h => by
    obtain ⟨k1, k2, k3, k4⟩ := g.own r o h
    refine ⟨k1, k2, k3, ?_⟩
    cases o with
    | cells t size cs => obtain ⟨us, rest, e1, e2, e3⟩ := k4; exact ⟨us, rest, e1, RL.keeps hk _ _ e2, e3⟩
    | bld => exact k4
    | pmap => exact k4
    | miter => exact k4
    | gmap => obtain ⟨ents, e1, e2⟩ := k4; exact ⟨ents, e1, RM.keeps hk _ _ e2⟩
    | iter => exact k4, g.hid, g.imm, fun g0 cs e => R1.keeps hk _ _ (g.glob g0 cs e), E.keepW _ _ _ _ hk g.inv⟩
  have r' : RS E { w with drawn := w.drawn + 1 } I a act := r.keeps hk
  have h3 := LAny.sound _ h2 g' r' (w0 := w) (I0 := I) (G0 := G) (h0 := a.h) ⟨rfl, rfl, rfl, Nat.le_refl _, fun _ _ a b => ⟨rfl, a, b⟩, fun _ h => h, fun _ _ _ _ h => h, fun _ => Nat.le_succ _⟩
  have hsz : l.toArray.size = ls.length := by rw [hlen]; simp
  rw [hsz, hlen]
  rw [hlen] at h3
  refine wpAny_mono_post ?_ _ _ _ _ h3
  rintro e act' w' ⟨b, I', G', gb, rb, sb, rfl, c, hc, k⟩
  exact ⟨c, I', G', by rw [hc.2.1]; exact gb, rb.same hc.1 hc.2.2, by rw [hc.2.1]; exact sb, k⟩
end
end Go.Proofs.YtincpomenogppaaGreatDoor.Lift
