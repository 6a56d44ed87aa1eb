/- What is owned, and stands in a cell of an owned block, is let go: the cell is a list. -/
import Derived.Test.YtincpomenogppaaGreatDoorLiftF
import Derived.Test.YtincpomenogppaaGreatDoorLiftW
import Derived.Laws.AppendOwn
import Derived.Test.YtincpomenogppaaGreatDoorLiftQ
set_option linter.unusedSimpArgs false
set_option linter.unusedVariables false
namespace Go.Proofs.YtincpomenogppaaGreatDoor.Lift
open Go Go.RowKit
section
variable {E : Env} {w : World} {I : Nat → Prop} {G : Nat → Option Nat} {h : Heap}
theorem Good.recell (g : Good E w I G h) {q : Nat} {t : TypeId} {size : Nat} {cs cs' : List PV} (hq : h q = some (.cells t size cs)) (hr : ∀ us, RL w I cs us → RL w I cs' us) :
    Good E w I G (h.put q (.cells t size cs')) ∧ Stp E.mono w I G h w I G (h.put q (.cells t size cs')) :=
  g.write hq rfl rfl (fun _ _ => rfl) rfl rfl rfl (by
    obtain ⟨_, _, _, us, rest, h1, h2, h3⟩ := g.own q _ hq
    exact ⟨us, rest, h1, hr us h2, h3⟩)
theorem Good.ownAt {h1 H : Heap} (g : Good E w I G H) {e t : TypeId} {sz size q : Nat} {xs : List (List PV)} {v : PV} {pre post : List PV} (o : Own h1 e sz xs v H) (hq : h1 q = some (.cells t size (pre ++ v :: post))) :
    ∃ I' G', Good E w I' G' (h1.put q (.cells t size (pre ++ .list sz xs :: post))) ∧ Stp E.mono w I G H w I' G' (h1.put q (.cells t size (pre ++ .list sz xs :: post))) ∧ Keeps w I w I' := by
  obtain ⟨I', G', g', s, hk, hr⟩ := o.letGo1 g
  have hv : ∀ u, R1 w I' v u → R1 w I' (.list sz xs) u := fun u hu => hr u (by
    rcases o with ⟨rfl, _⟩ | ⟨_, _, rfl, _⟩ <;> exact hu)
  obtain ⟨g2, s2⟩ := g'.recell hq (cs' := pre ++ .list sz xs :: post) (fun us hu => RL.swap (fun k hk => ⟨hk, rfl⟩) hv pre post us hu)
  exact ⟨I', G', g2, s.trans s2, hk⟩
theorem SW.ownAt {c : Code} {Q : Exit → AS → Prop} {a : AS} {h1 : Heap} (q : Nat) {e t : TypeId} {sz size : Nat} {xs : List (List PV)} {v : PV} {pre post : List PV} (o : Own h1 e sz xs v a.h) (hq : h1 q = some (.cells t size (pre ++ v :: post)))
    (k : SW E c Q { a with h := h1.put q (.cells t size (pre ++ .list sz xs :: post)) }) : SW E c Q a := by
  intro w I G act g r
  obtain ⟨I', G', g', s, hk⟩ := g.ownAt o hq
  have r' : RS E w I' { a with h := h1.put q (.cells t size (pre ++ .list sz xs :: post)) } act := ⟨r.defers, r.size, fun t => R.keeps hk _ _ (r.slot t)⟩
  exact wp_mono (k w _ _ act g' r') fun _ _ _ p => p.trans s
theorem SWO.ownAt {ops : Array Oper} {rest : List Oper} {Q : Exit → AS → Prop} {a : AS} {h1 : Heap} (q : Nat) {e t : TypeId} {sz size : Nat} {xs : List (List PV)} {v : PV} {pre post : List PV} (o : Own h1 e sz xs v a.h) (hq : h1 q = some (.cells t size (pre ++ v :: post)))
    (k : SWO E ops rest Q { a with h := h1.put q (.cells t size (pre ++ .list sz xs :: post)) }) : SWO E ops rest Q a := by
  intro w I G act g r
  obtain ⟨I', G', g', s, hk⟩ := g.ownAt o hq
  have r' : RS E w I' { a with h := h1.put q (.cells t size (pre ++ .list sz xs :: post)) } act := ⟨r.defers, r.size, fun t => R.keeps hk _ _ (r.slot t)⟩
  exact wpList_mono (fun _ _ _ p => p.trans s) _ _ _ (k w _ _ act g' r')
theorem HTo.less {h : Heap} {q : Nat} {t : TypeId} {size : Nat} {cs ds : List PV} (hq : h q = some (.cells t size (cs ++ ds))) : HTo E h (h.put q (.cells t size cs)) := fun w I G g => by
  obtain ⟨_, _, _, us, rest, h1, h2, h3⟩ := g.own q _ hq
  have : ∃ u1 u2, us = u1 ++ u2 ∧ RL w I cs u1 ∧ RL w I ds u2 := by
    clear h1 h3 hq
    induction cs generalizing us with
    | nil => exact ⟨[], us, rfl, rfl, h2⟩
    | cons x cs ih =>
      obtain ⟨u, us', rfl, hu, h2⟩ := h2
      obtain ⟨u1, u2, rfl, k1, k2⟩ := ih us' h2
      exact ⟨u :: u1, u2, rfl, ⟨u, u1, rfl, hu, k1⟩, k2⟩
  obtain ⟨u1, u2, rfl, k1, k2⟩ := this
  obtain ⟨g', s⟩ := g.write (w' := w) (ob := .cells t size cs) hq rfl rfl (fun _ _ => rfl) rfl rfl rfl ⟨u1, u2 ++ rest, by rw [h1, List.append_assoc], k1, by simp at h3 ⊢; omega⟩
  exact ⟨I, G, g', s⟩
end
end Go.Proofs.YtincpomenogppaaGreatDoor.Lift

namespace Go.Proofs.YtincpomenogppaaGreatDoor.Lift
open Go Go.RowKit
section
variable {E : Env} {S : Specs E} {md : Region.Mode} {ops : Array Oper} {w w1 w' : World} {I I1 I' : Nat → Prop} {G G1 G' : Nat → Option Nat} {h h' : Heap}
theorem HandOK.pastG {o oi : Oper} {xs : Array Operand} {A : List PV} {H : Heap} {Rel : PV → Heap → Prop} {v : PV} {a : AS} {K : AS → Prop} (hx0 : ∀ x ∈ xs.toList, x ∈ o.op.operands) (hK : ∀ a b, AEq a b → K a → K b) (hap : oi.apart ops o = true)
    {P : AS → Prop} (hP : ∀ u h', P { a.put o.dst u with h := h' }) (hls : ∀ p h', Rel p h' → px E S (a.eval E) h' oi.op = px E S (a.eval E) a.h oi.op)
    (hy : LY E S ops oi v a) (hs : HandOK E ops o xs A H Rel K (a.put oi.dst v)) : HandOK E ops o xs A H Rel (fun a' => (LY E S ops oi v a' ∧ P a') ∧ K (a'.put oi.dst v)) a := by
  obtain ⟨h1, h2, h3⟩ := Oper.apart_spec hap
  have hn : ∀ (d : Option Tmp) (v : PV), (a.put d v).n = a.n := fun d v => by cases d <;> rfl
  have keep : ∀ (u : PV) (h' : Heap), ((px E S (a.eval E) a.h oi.op).1 → px E S (a.eval E) h' oi.op = px E S (a.eval E) a.h oi.op) → LY E S ops oi v { a.put o.dst u with h := h' } := fun u h' hh => by
    refine ⟨(congrArg (fun n => okDst n oi.dst) (hn o.dst u)).trans hy.1, ?_⟩
    have hw : wantedA ops { a.put o.dst u with h := h' } oi = wantedA ops a oi := (wanted_putA (v := u) h3 : wantedA ops (a.put o.dst u) oi = wantedA ops a oi)
    have hp : px E S (AS.eval E { a.put o.dst u with h := h' }) h' oi.op = px E S (a.eval E) h' oi.op := by
      have : AS.eval E { a.put o.dst u with h := h' } = (a.put o.dst u).eval E := by funext x; cases x <;> rfl
      rw [this]
      exact px_put h3
    rw [hw]
    show (_ ∧ (px E S (AS.eval E { a.put o.dst u with h := h' }) h' oi.op).1 ∧ v = (px E S (AS.eval E { a.put o.dst u with h := h' }) h' oi.op).2) ∨ _
    rw [hp]
    rcases hy.2 with ⟨hw, hp, rfl⟩ | ⟨hw, rfl⟩
    · rw [hh hp]; exact .inl ⟨hw, hp, rfl⟩
    · exact .inr ⟨hw, rfl⟩
  have swap : ∀ (u : PV) (h' : Heap), K { (a.put oi.dst v).put o.dst u with h := h' } → K ({ a.put o.dst u with h := h' }.put oi.dst v) := fun u h' k => by
    have e : ({ a.put o.dst u with h := h' } : AS).put oi.dst v = { (a.put o.dst u).put oi.dst v with h := h' } := by cases oi.dst <;> rfl
    rw [e]
    exact hK _ _ ((put_comm a v u h2).heap h') k
  have heval : ∀ x ∈ o.op.operands, (a.put oi.dst v).eval E x = a.eval E x := fun x hx => eval_put fun t e e2 => h1 t e (by subst e2; exact List.mem_append_left _ (List.mem_filterMap.2 ⟨.tmp t, by simpa using hx, rfl⟩))
  have hev : ∀ x ∈ xs.toList, (a.put oi.dst v).eval E x = a.eval E x := fun x hx => heval x (hx0 x hx)
  have hah : (a.put oi.dst v).h = a.h := put_h a _ _
  obtain ⟨k1, k2, k3, k4, k5, k6⟩ := hs
  rw [hah] at k1
  rw [wanted_putA (v := v) h1] at k4
  rw [hn oi.dst v] at k5
  rw [List.map_congr_left hev] at k3
  have k2' : (xs.toList.all fun x => okArg (a.eval E x)) = true := by
    rw [List.all_eq_true] at k2 ⊢
    intro x hx
    have := k2 x hx
    rw [hev x hx] at this
    exact this
  exact ⟨k1, k2', k3, k4, k5, fun p h' r => ⟨⟨keep p h' fun _ => hls p h' r, hP p h'⟩, swap p h' (k6 p h' r)⟩⟩
structure HandG (E : Env) (ops : Array Oper) where
  m : Nat
  o : Oper
  xs : Array Operand
  A : List PV
  H : Heap
  Rel : PV → Heap → Prop
  ho : ops[m]? = some o
  hx : ∀ x ∈ xs.toList, x ∈ o.op.operands
  sw : ∀ {K : AS → Prop} {Q : Exit → AS → Prop} {a : AS}, HandOK E ops o xs A H Rel K a → SWO E ops [o] (thenQ K Q) a
def LOpG (E : Env) (S : Specs E) (ops : Array Oper) (M : HandG E ops) (i : Nat) (K : AS → Prop) (a : AS) : Prop := if i = M.m then HandOK E ops M.o M.xs M.A M.H M.Rel K a else LOp E S ops i K a
theorem LOpG.mono {M : HandG E ops} {i : Nat} {K K' : AS → Prop} {a : AS} (hk : ∀ a, K a → K' a) (h : LOpG E S ops M i K a) : LOpG E S ops M i K' a := by
  unfold LOpG at h ⊢
  split
  · rename_i e; rw [if_pos e] at h; exact h.mono hk
  · rename_i e; rw [if_neg e] at h; exact LOp.mono hk h
def LAnyH (E : Env) (S : Specs E) (md : Region.Mode) (ops : Array Oper) (M : HandG E ops) (L1 : Array Bool) (last : Nat) (Q : AS → Prop) : Nat → Array Bool → AS → Prop
  | 0, listed, a => listed = L1 ∧ Region.ready md ops listed = [last] ∧ ∃ c, AEq c a ∧ Q c
  | fuel + 1, listed, a => Region.ready md ops listed ≠ [] ∧ ∀ i ∈ Region.ready md ops listed, LOpG E S ops M i (LAnyH E S md ops M L1 last Q fuel (listed.setIfInBounds i true)) a
theorem AEq.lanyH {M : HandG E ops} {L1 : Array Bool} {last : Nat} {Q : AS → Prop} : ∀ (fuel : Nat) {listed : Array Bool} {a b : AS}, AEq a b → LAnyH E S md ops M L1 last Q fuel listed a → LAnyH E S md ops M L1 last Q fuel listed b
  | 0, _, _, _, e, h => by
    obtain ⟨h1, h2, c, hc, k⟩ := h
    exact ⟨h1, h2, c, hc.trans e, k⟩
  | fuel + 1, _, _, _, e, h => ⟨h.1, fun i hi => by
      have := h.2 i hi
      unfold LOpG at this ⊢
      split
      · rename_i e2; rw [if_pos e2] at this; exact e.handOK (fun _ _ e h => AEq.lanyH fuel e h) this
      · rename_i e2; rw [if_neg e2] at this; exact e.lop (fun _ _ e h => AEq.lanyH fuel e h) this⟩
theorem LAnyH.sound {M : HandG E ops} {L1 : Array Bool} {last f : Nat} {Q : AS → Prop} {R : Exit → AS → Prop} (hQ : ∀ c, Q c → RestOK E md ops R f L1 c) : ∀ (fuel : Nat) {listed : Array Bool} {a : AS}, LAnyH E S md ops M L1 last Q fuel listed a → RestOK E md ops R (fuel + f) listed a
  | 0, listed, a, h => by
    obtain ⟨rfl, _, c, hc, k⟩ := h
    intro w I G act g r w0 I0 G0 h0 s
    rw [Nat.zero_add]
    exact hQ c k w I G act (by rw [hc.2.1]; exact g) (r.same hc.1 hc.2.2) w0 I0 G0 h0 (by rw [hc.2.1]; exact s)
  | fuel + 1, listed, a, h => by
    intro w I G act g r w0 I0 G0 h0 s
    rw [Nat.add_right_comm]
    refine ⟨fun e => absurd e h.1, fun i hi => ?_⟩
    have h1 := h.2 i hi
    unfold LOpG at h1
    by_cases hm : i = M.m
    · rw [if_pos hm] at h1
      have hs : SWO E ops [M.o] (thenQ (LAnyH E S md ops M L1 last Q fuel (listed.setIfInBounds i true)) R) a := M.sw h1
      have h4 := hs w I G act g r
      unfold wpList at h4
      unfold wpOp
      rw [hm, M.ho]
      dsimp only
      have k1 : ∀ act' w', wpList E.P ops (Post E w I G a.h (thenQ (LAnyH E S md ops M L1 last Q fuel (listed.setIfInBounds i true)) R)) [] act' w' → wpAny E.P md ops (Post E w0 I0 G0 h0 R) (fuel + f) (listed.setIfInBounds M.m true) act' w' := fun act' w' ⟨b, I', G', g', r', s', q⟩ => by
        rw [← hm]
        exact LAnyH.sound hQ fuel q w' I' G' act' g' r' w0 I0 G0 h0 (s.trans s')
      have k2 : ∀ e act' w', e ≠ .normal → Post E w I G a.h (thenQ (LAnyH E S md ops M L1 last Q fuel (listed.setIfInBounds i true)) R) e act' w' → Post E w0 I0 G0 h0 R e act' w' := fun e act' w' hne ⟨b, I', G', g', r', s', q⟩ => by
        refine ⟨b, I', G', g', r', s.trans s', ?_⟩
        cases e <;> first | exact absurd rfl hne | exact q
      split
      · rename_i hw
        rw [if_pos hw] at h4
        rcases h4 with h4 | ⟨h5, a', w', h6⟩
        · exact .inl (upon_mono_but k1 k2 h4)
        · exact .inr ⟨h5, a', w', k2 _ _ _ (fun e => by cases e) h6⟩
      · rename_i hw
        rw [if_neg hw] at h4
        exact k1 _ _ h4
    · rw [if_neg hm] at h1
      unfold LOp at h1
      unfold wpOp
      split
      · rename_i e
        rw [e] at h1
        exact LAnyH.sound hQ fuel h1 w I G act g r w0 I0 G0 h0 s
      · rename_i o e
        rw [e] at h1
        obtain ⟨hd, h1⟩ := h1
        cases hw : wantedA ops a o with
        | none => rw [hw] at h1; simp at h1
        | some b =>
          rw [hw] at h1
          cases b with
          | true =>
            rw [if_pos rfl] at h1
            rw [if_pos (r.wanted hw)]
            exact .inl (step1_wp hd h1 g r fun a' act' w' I' G' g' r' s' k => LAnyH.sound hQ fuel k w' I' G' act' g' r' w0 I0 G0 h0 (s.trans s'))
          | false =>
            rw [if_neg (by simp), if_pos rfl] at h1
            rw [if_neg (by rw [r.wanted hw]; simp)]
            have hh : (a.put o.dst (.tuple [])).h = a.h := put_h a _ _
            exact LAnyH.sound hQ fuel h1 w I G _ (by rw [hh]; exact g) (r.put hd ⟨[], rfl, rfl⟩) w0 I0 G0 h0 (by rw [hh]; exact s)
theorem LAnyH.first {M : HandG E ops} {L1 : Array Bool} {last : Nat} {Q : AS → Prop} {i : Nat} {oi : Oper} {v : PV} (hi : ops[i]? = some oi) (him : i ≠ M.m) (hw0 : waits md ops i ops.size last = true) (hq : quietOp S oi.op = true) {P : AS → Prop}
    (hPk : ∀ k ok, ops[k]? = some ok → k ≠ i → oi.apart ops ok = true → ∀ a u h', P a → P { a.put ok.dst u with h := h' })
    (hPm : waits md ops i ops.size M.m = false → ∀ a, P a → a.h = M.H → ∀ p h', M.Rel p h' → px E S (a.eval E) h' oi.op = px E S (a.eval E) a.h oi.op) :
    ∀ (fuel : Nat) (listed : Array Bool) (a : AS),
      (∀ j oj, ops[j]? = some oj → j ≠ i → listed.getD j true = false → waits md ops i ops.size j = false → oi.apart ops oj = true ∧ (j ≠ M.m → (isLoad oi.op && hxOp S oj.op) = false)) →
      Closed md ops listed → i ∈ Region.ready md ops listed → LY E S ops oi v a → P a →
      LAnyH E S md ops M L1 last Q fuel (listed.setIfInBounds i true) (a.put oi.dst v) → LAnyH E S md ops M L1 last Q (fuel + 1) listed a := by
  intro fuel
  have front : ∀ {K : AS → Prop} {a : AS}, LY E S ops oi v a → K (a.put oi.dst v) → LOpG E S ops M i K a := fun hy H => by
    unfold LOpG
    rw [if_neg him]
    exact hy.lop hi hq H
  induction fuel with
  | zero =>
    intro listed a _ hcl hr hy _ H
    refine ⟨fun h => (by rw [h] at hr; cases hr), fun j hj => ?_⟩
    by_cases hji : j = i
    · subst hji; exact front hy H
    · have h1 := ready_mono hj hji
      rw [H.2.1] at h1
      obtain rfl : j = last := by simpa using h1
      obtain ⟨_, oj, hoj, hall⟩ := mem_ready.1 hj
      have hi0 : listed.getD i false = false := by
        have h0 := (mem_ready.1 hr).1
        rcases Nat.lt_or_ge i listed.size with h' | h'
        · simp [h'] at h0 ⊢; exact h0
        · simp [Array.getElem?_eq_none h'] at h0
      rw [waits_no hcl hi0 _ _ _ hoj hall] at hw0
      cases hw0
  | succ fuel ih =>
    intro listed a hfree hcl hr hy hPa H
    refine ⟨fun h => (by rw [h] at hr; cases hr), fun j hj => ?_⟩
    by_cases hji : j = i
    · subst hji; exact front hy H
    · have h1 := H.2 j (ready_mono hj hji)
      obtain ⟨hjun, oj, hoj, hall⟩ := mem_ready.1 hj
      have hi0 : listed.getD i false = false := by
        have h0 := (mem_ready.1 hr).1
        rcases Nat.lt_or_ge i listed.size with h' | h'
        · simp [h'] at h0 ⊢; exact h0
        · simp [Array.getElem?_eq_none h'] at h0
      have hnot : waits md ops i ops.size j = false := waits_no hcl hi0 _ _ _ hoj hall
      obtain ⟨hap, hls⟩ := hfree j oj hoj hji hjun hnot
      have hfree' : ∀ k ok, ops[k]? = some ok → k ≠ i → (listed.setIfInBounds j true).getD k true = false →
          waits md ops i ops.size k = false → oi.apart ops ok = true ∧ (k ≠ M.m → (isLoad oi.op && hxOp S ok.op) = false) := fun k ok hk hki hun hno => by
        refine hfree k ok hk hki ?_ hno
        by_cases hjk : j = k
        · subst hjk; exact hjun
        · rw [getD_set_ne true hjk] at hun; exact hun
      have go : ∀ a', (LY E S ops oi v a' ∧ P a') ∧ LAnyH E S md ops M L1 last Q fuel ((listed.setIfInBounds i true).setIfInBounds j true) (a'.put oi.dst v) → LAnyH E S md ops M L1 last Q (fuel + 1) (listed.setIfInBounds j true) a' := fun a' h3 => by
        refine ih (listed.setIfInBounds j true) a' hfree' (hcl.step hj) (ready_mono hr (Ne.symm hji)) h3.1.1 h3.1.2 ?_
        rw [Array.setIfInBounds_comm _ _ hji]
        exact h3.2
      unfold LOpG at h1 ⊢
      by_cases hjm : j = M.m
      · rw [if_pos hjm] at h1 ⊢
        obtain rfl : oj = M.o := by
          have := M.ho
          rw [← hjm, hoj] at this
          exact Option.some.inj this
        have hH : a.h = M.H := by have := h1.1; rw [put_h] at this; exact this
        exact HandOK.mono go (HandOK.pastG (S := S) M.hx (fun _ _ e k => AEq.lanyH fuel e k) hap (P := P) (fun u h' => hPk j _ hoj hji hap a u h' hPa) (fun p h' r => hPm (by rw [← hjm]; exact hnot) a hPa hH p h' r) hy h1)
      · rw [if_neg hjm] at h1 ⊢
        exact LOp.mono go (LOp.pastP (P := P) (fun _ _ e k => AEq.lanyH fuel e k) hoj hap (fun u h' => hPk j oj hoj hji hap a u h' hPa) (.inl (hls hjm)) hy h1)
theorem dropKey_idem (s : List (Nat × PV)) (d : Nat) : dropKey (dropKey s d) d = dropKey s d := by
  induction s with
  | nil => rfl
  | cons x l ih =>
    by_cases e : x.1 = d
    · simp only [dropKey, e, if_true]; exact ih
    · simp only [dropKey, e, if_false, ih]
theorem AS.put_put (a : AS) (d : Nat) (v v' : PV) (h' h2 : Heap) : ({ ({ a.put (some d) v with h := h' } : AS).put (some d) v' with h := h2 } : AS) = { a.put (some d) v' with h := h2 } := by
  show ({ n := a.n, s := (d, v') :: dropKey ((d, v) :: dropKey a.s d) d, h := h2 } : AS) = { n := a.n, s := (d, v') :: dropKey a.s d, h := h2 }
  simp only [dropKey, if_true, dropKey_idem]
def SwapOK (f : PV → PV) : Prop := ∀ (w : World) (I I' : Nat → Prop) (v v' : PV), Keeps w I w I' → (∀ u, R1 w I v u → R1 w I' v' u) → ∀ u, R w I (f v) u → R w I' (f v') u
theorem RE.swap1 {w : World} {I I' : Nat → Prop} {sz : Nat} {v v' : PV} (hk : Keeps w I w I') (hv : ∀ u, R1 w I v u → R1 w I' v' u) (pre post : List PV) (rows : List (List PV)) : ∀ us, RE w I sz ((pre ++ v :: post) :: rows) us → RE w I' sz ((pre ++ v' :: post) :: rows) us := by
  rintro us ⟨u1, u2, rfl, h1, h2, h3⟩
  exact ⟨u1, u2, rfl, h1, RL.swap hk hv pre post u1 h2, RE.keeps hk _ _ _ h3⟩
theorem SwapOK.list (sz : Nat) (pre post : List PV) (rows : List (List PV)) : SwapOK fun v => .list sz ((pre ++ v :: post) :: rows) := by
  intro w I I' v v' hk hv u hu
  obtain ⟨A, c, us, rfl, h1, h2, h3, h4⟩ := R_list hu
  show R1 w I' (.list sz ((pre ++ v' :: post) :: rows)) _
  simp only [R1]
  exact ⟨A, c, us, by simp, by simpa using h1, h2, RE.swap1 hk hv pre post rows us h3, h4.keeps hk⟩
end
end Go.Proofs.YtincpomenogppaaGreatDoor.Lift

namespace Go.Proofs.YtincpomenogppaaGreatDoor.Lift
open Go Go.RowKit
theorem run_append_zeros {P : Program} (w : World) (t tx ty e : TypeId) (i : TypeInfo) (z : Value) (kx : IntKind) (ht : P.underlying t = some (.slice e)) (hx : P.underlying tx = some (.int kx)) (hi : P.info? e = some i) (hz : i.zero = some z)
    (n : Nat) (h0 : 0 < n) (hs : 0 < i.size) (h63 : n ≤ 9223372036854775807) (h48 : n * i.bytes ≤ 281474976710656) (hfit : Builtin.nextslicecap n 0 * i.bytes ≤ 281474976710656) :
    (Builtin.append_ #[t, tx] ty #[.slice none 0 0, .int .i64 n]).run P w =
      .ok (.slice (some ⟨w.heap.size, 0, none⟩) n (grownCap w n 0 e)) (w.drew.alloc (.cells (Builtin.zeroCells z.cells n ++ Builtin.zeroCells z.cells (grownCap w n 0 e - n)) e)) := by
  have hw : IntKind.i64.wrap ((n : Nat) : Int) = ((n : Nat) : Int) := w64 (by omega) (by omega)
  have hn : ¬ ((n : Nat) : Int) < 0 := by omega
  have h48' : ¬ (281474976710656 < ((n : Nat) : Int) * (i.bytes : Int)) := by
    have : ((n * i.bytes : Nat) : Int) ≤ 281474976710656 := by omega
    rw [Int.natCast_mul] at this
    omega
  have hne : ¬ (n * i.size = 0) := by
    intro h
    rcases Nat.mul_eq_zero.1 h with h | h <;> omega
  have hne2 : ¬ (n = 0 ∨ i.size = 0) := by omega
  have h63' : ¬ (9223372036854775807 < ((n : Nat) : Int)) := by omega
  have hf2 : ¬ (281474976710656 < Builtin.nextslicecap n 0 * i.bytes) := by omega
  have hn0 : ¬ n = 0 := by omega
  have hai : ∀ w : World, (asIntOf (Value.int .i64 ((n : Nat) : Int))).run P w = .ok (.i64, ((n : Nat) : Int)) w := fun _ => rfl
  have hle : ¬ ((n : Nat) : Int) ≤ 0 := by omega
  simp [Builtin.append_, run_underlying ht, run_underlying hx, sizeOf, typeInfo, zeroValue, hi, hz, asInt, hai, hle, hw, hn, h48', hne, hne2, hn0, h63', hf2, Question.forced, newRow, grownCap, Builtin.firstCells]
section
variable {E : Env} {w w1 w' : World} {I I1 I' : Nat → Prop} {G G1 G' : Nat → Option Nat} {h h' : Heap}
theorem SWO.appendZ {ops : Array Oper} {o : Oper} {rest : List Oper} {Q : Exit → AS → Prop} {a : AS} (s x : Operand) (t tx : TypeId) (hop : o.op = .call { callee := .builtin .append, args := #[s, x], argTypes := #[t, tx] })
    {i ie ix : TyI} {e : TypeId} {kx : IntKind} (ht : E.ty t = some i) (hk : i.k = .slice e) (he : E.ty e = some ie) (hpos : 0 < ie.size) (hzl : ie.zero.length = ie.size) (htx : E.ty tx = some ix) (hkx : ix.k = .int kx) {n : Nat}
    (hs : a.eval E s = .val (.slice none 0 0)) (hx : a.eval E x = .int .i64 (n : Nat)) (h0 : 0 < n) (hb : n * ie.bytes ≤ 140737488355328) (hm : n ≤ maxLen) (hg : wantedA ops a o = some true) (hd : okDst a.n o.dst = true)
    (k : ∀ r cap, a.h r = none → n ≤ cap → cap ≤ maxLen → SWO E ops rest Q { a.put o.dst (.val (.slice (some ⟨r, 0, none⟩) n cap)) with h := a.h.put r (.cells e (cap * ie.size) []) }) : SWO E ops (o :: rest) Q a := by
  refine SWO.to hg hd fun w I G act g r => ?_
  have hdt := ty_under ht
  rw [hk] at hdt
  have hdx := ty_under htx
  rw [hkx] at hdx
  obtain ⟨inf, z, hi, hisz, hiby, hiz, hzc, _⟩ := ty_info he
  have hs' := R_val (by have := r.eval g s; rw [hs] at this; exact this)
  have hx' := R_int (by have := r.eval g x; rw [hx] at this; exact this)
  have hzsz : z.cells.size = ie.size := by rw [← hzl, ← hzc, Array.length_toList]
  have hr := run_append_zeros (P := E.P) w t tx o.type e inf z kx hdt hdx hi hiz n h0 (by rw [hisz]; exact hpos) (by simp only [maxLen] at hm; omega) (by rw [hiby]; omega) (by rw [hiby]; exact growslice_fits (by omega) (by simpa using hb))
  have hge : n ≤ grownCap w n 0 e := grownCap_ge w n 0 e
  have hexec : (execOp act.eval o).run E.P w = .ok (.value (.slice (some ⟨w.heap.size, 0, none⟩) n (grownCap w n 0 e))) (w.drew.alloc (.cells (Builtin.zeroCells z.cells n ++ Builtin.zeroCells z.cells (grownCap w n 0 e - n)) e)) := by
    simp [execOp, hop, resolve, invoke, builtin, hs', hx', hr]
  have hat := heap_alloc_at w.drew (.cells (Builtin.zeroCells z.cells n ++ Builtin.zeroCells z.cells (grownCap w n 0 e - n)) e)
  have hob : RObj (w.drew.alloc (.cells (Builtin.zeroCells z.cells n ++ Builtin.zeroCells z.cells (grownCap w n 0 e - n)) e)) I G w.heap.size (.cells e (grownCap w n 0 e * ie.size) []) := by
    refine ⟨[], (Builtin.zeroCells z.cells n ++ Builtin.zeroCells z.cells (grownCap w n 0 e - n)).toList, ?_, rfl, ?_⟩
    · refine Eq.trans hat ?_
      simp
    · simp only [List.length_nil, Nat.zero_add, Array.length_toList, Array.size_append, size_zeroCells, hzsz]
      rw [← Nat.add_mul]
      congr 1
      omega
  obtain ⟨g', s'⟩ := g.alloc_own (w' := w.drew.alloc (.cells (Builtin.zeroCells z.cells n ++ Builtin.zeroCells z.cells (grownCap w n 0 e - n)) e)) (by simp) (fun k hk => heap_alloc_lt w.drew _ k hk) rfl rfl rfl hob (fun _ => Nat.le_succ _)
  exact ⟨_, _, _, I, G, _, .val (.slice (some ⟨w.heap.size, 0, none⟩) n (grownCap w n 0 e)), hexec, .inl rfl, g', s', ⟨rfl, rfl⟩, k _ _ g.fresh hge (grownCap_le_maxLen w _ _ e hm)⟩
end
end Go.Proofs.YtincpomenogppaaGreatDoor.Lift

namespace Go.Proofs.YtincpomenogppaaGreatDoor.Lift
open Go Go.RowKit
theorem one_flat {α : Type} (f : α → PV) : ∀ l : List α, (l.map fun n => [f n]).flatten = l.map f
  | [] => rfl
  | x :: l => by rw [List.map_cons, List.flatten_cons, one_flat f l]; rfl
section
variable {E : Env} {w w1 w' : World} {I I1 I' : Nat → Prop} {G G1 G' : Nat → Option Nat} {h h' : Heap}

set_option maxHeartbeats 2000000 in
theorem SWO.runesO {ops : Array Oper} {o : Oper} {rest : List Oper} {Q : Exit → AS → Prop} {a : AS} (s t : TypeId) (x : Operand) (hop : o.op = .convert s t x) {i j je : TyI} {e : TypeId} {l : List UInt8}
    (hs : E.ty s = some i) (hk : i.k = .str) (ht : E.ty t = some j) (hj : j.k = .slice e) (he : E.ty e = some je) (hke : je.k = .int .i32) (hx : a.eval E x = .str l) (hl : l.length ≤ 70368744177664) (hg : wantedA ops a o = some true) (hd : okDst a.n o.dst = true)
    (k : ∀ v h', Own a.h e 1 ((runesOf l).map fun n => [PV.int .i32 n]) v h' → SWO E ops rest Q { a.put o.dst v with h := h' }) : SWO E ops (o :: rest) Q a := by
  refine SWO.to hg hd fun w I G act g r => ?_
  have h1 := r.eval g x
  rw [hx] at h1
  have hds := ty_under hs; rw [hk] at hds
  have hdt := ty_under ht; rw [hj] at hdt
  have hde := ty_under he; rw [hke] at hde
  have hrf : Conv.runesFrom ⟨l.toArray⟩ (⟨l.toArray⟩ : ByteArray).size 0 #[] = ((runesOf l).map (Value.int .i32)).toArray := by
    rw [runesFrom_eq, size_mk]
    simp [runesOf]
  have hlen : (runesOf l).length ≤ l.length := runesAt_len _ _ _
  have hrun := run_runes_of_string (P := E.P) w s t e ⟨l.toArray⟩ hds hdt hde (by rw [hrf]; simp; omega)
  rw [hrf] at hrun
  simp only [List.size_toArray, List.length_map] at hrun
  obtain ⟨cap, hcap⟩ : ∃ cap, cap = grownCap w (runesOf l).length 0 e := ⟨_, rfl⟩
  rw [← hcap] at hrun
  have hge : (runesOf l).length ≤ cap := by rw [hcap]; exact grownCap_ge _ _ _ _
  have hcm : cap ≤ maxLen := by rw [hcap]; exact grownCap_le_maxLen w _ _ e (by simp only [maxLen]; omega)
  have hob : RObj (w.drew.alloc (.cells (((runesOf l).map (Value.int .i32)).toArray ++ Array.replicate (cap - (runesOf l).length) (.int .i32 0)) e)) I G w.heap.size (.cells e (cap * 1) ((runesOf l).map (PV.int .i32))) := by
    refine ⟨(runesOf l).map (Value.int .i32), List.replicate (cap - (runesOf l).length) (.int .i32 0), ?_, RL_ints _ _ _ _, by simp; omega⟩
    refine (heap_alloc_at w.drew _).trans ?_
    congr 2
    apply Array.ext'
    simp
  obtain ⟨g', s'⟩ := g.alloc_own (w' := w.drew.alloc (.cells (((runesOf l).map (Value.int .i32)).toArray ++ Array.replicate (cap - (runesOf l).length) (.int .i32 0)) e)) (by simp) (fun k hk => heap_alloc_lt w.drew _ k hk) rfl rfl rfl hob (fun _ => Nat.le_succ _)
  have hexec : (execOp act.eval o).run E.P w = .ok (.value (.slice (some ⟨w.heap.size, 0, none⟩) (runesOf l).length cap)) (w.drew.alloc (.cells (((runesOf l).map (Value.int .i32)).toArray ++ Array.replicate (cap - (runesOf l).length) (.int .i32 0)) e)) := by
    simp only [execOp, hop, Sem.run_bind, R_str h1, hrun]; rfl
  have how : Own a.h e 1 ((runesOf l).map fun n => [PV.int .i32 n]) (.val (.slice (some ⟨w.heap.size, 0, none⟩) (runesOf l).length cap)) (a.h.put w.heap.size (.cells e (cap * 1) ((runesOf l).map (PV.int .i32)))) :=
    .inr ⟨w.heap.size, cap, by rw [List.length_map], by rw [List.length_map]; exact hge, hcm, g.fresh, by rw [one_flat], fun x hx => by obtain ⟨n, _, rfl⟩ := List.mem_map.1 hx; rfl⟩
  exact ⟨_, _, _, I, G, _, .val (.slice (some ⟨w.heap.size, 0, none⟩) (runesOf l).length cap), hexec, .inl rfl, g', s', ⟨rfl, rfl⟩, k _ _ how⟩
end
end Go.Proofs.YtincpomenogppaaGreatDoor.Lift

namespace Go.Proofs.YtincpomenogppaaGreatDoor.Lift
open Go Go.RowKit
section
variable {E : Env} {S : Specs E} {ops : Array Oper}
end
end Go.Proofs.YtincpomenogppaaGreatDoor.Lift

namespace Go.Proofs.YtincpomenogppaaGreatDoor.Lift
open Go Go.RowKit
section
variable {E : Env} {S : Specs E} {ops : Array Oper}
theorem Yld.ifaceNil {a : AS} {t ty : TypeId} {x : Operand} {T : TypeId} {ag : Bool} {cs : List PV} (hx : a.eval E x = .iface T ag cs) {i : TyI} (ht : E.ty t = some i) (hk : i.k = .iface) : Yld E a (.binOp .eql t x (.const .nilIface) ty) (.bool false) := by
  have hdt := ty_under ht
  rw [hk] at hdt
  obtain ⟨ms, hdt⟩ := hdt
  intro w I G act o ho g r
  have h1 := r.eval g x
  rw [hx] at h1
  obtain ⟨us, h1, _⟩ : ∃ us, act.eval x = .iface T (ofCells ag us) ∧ RL w I cs us := h1
  have heq : (Op.equal t (.iface T (ofCells ag us)) .nilIface).run E.P w = .ok false w := by
    obtain ⟨d, eqn⟩ : ∃ d, ∀ u1 u2, Op.equal t u1 u2 = Op.equalIn (d + 1) t u1 u2 := ⟨9999, fun _ _ => rfl⟩
    rw [eqn]
    simp [Op.equalIn, run_underlying hdt]
  refine ⟨.bool false, ?_, rfl⟩
  have h2 : act.eval (.const .nilIface) = .nilIface := rfl
  have hb : Go.binOp .eql t (.iface T (ofCells ag us)) .nilIface = (do pure (.bool (← Op.equal t (.iface T (ofCells ag us)) .nilIface))) := rfl
  simp [execOp, ho, h1, h2, eqGuard, hb, heq]
theorem SWO.ifaceNil {o : Oper} {rest : List Oper} {Q : Exit → AS → Prop} {a : AS} (t ty : TypeId) (x : Operand) (hop : o.op = .binOp .eql t x (.const .nilIface) ty) {T : TypeId} {ag : Bool} {cs : List PV} (hx : a.eval E x = .iface T ag cs) {i : TyI} (ht : E.ty t = some i) (hk : i.k = .iface)
    (hg : wantedA ops a o = some true) (hd : okDst a.n o.dst = true) (k : SWO E ops rest Q (a.put o.dst (.bool false))) : SWO E ops (o :: rest) Q a :=
  SWO.yld (by rw [hop]; exact Yld.ifaceNil hx ht hk) hg hd k
end
end Go.Proofs.YtincpomenogppaaGreatDoor.Lift

namespace Go.Proofs.YtincpomenogppaaGreatDoor.Lift
open Go Go.RowKit
variable {E : Env} {w w' : World} {I : Nat → Prop} {G : Nat → Option Nat} {h : Heap}

end Go.Proofs.YtincpomenogppaaGreatDoor.Lift

namespace Go.Proofs.YtincpomenogppaaGreatDoor.Lift
open Go Go.RowKit
variable {E : Env} {h : Heap}

def PV.Plain (v : PV) : Prop := ∀ w I u, R w I v u → ∀ w' I', R w' I' v u
theorem plain_bool (b : Bool) : (PV.bool b).Plain := fun _ _ _ h _ _ => h
theorem Good.all {w : World} {I : Nat → Prop} {G : Nat → Option Nat} (g : Good E w I G h) : Good E w (fun b => b < w.heap.size) (fun _ => none) noHeap := by
  have hk : Keeps w I w (fun b => b < w.heap.size) := fun k hk => ⟨g.imm k hk, rfl⟩
  exact ⟨fun r o e => (nomatch e), fun k r e => (nomatch e), fun k e => e, fun g0 cs e => R1.keeps hk _ _ (g.glob g0 cs e), E.keepW _ _ _ _ hk g.inv⟩
theorem SCalls.lend {f : FuncId} {args raw : List PV} {v : PV} (hc : SCalls E f args noHeap (Ret v noHeap)) (hv : v.Plain)
    (k : ∀ w I G vs, Good E w I G h → R0s w I raw vs → R0s w (fun b => b < w.heap.size) args vs) (hm : E.mono = false := by rfl) : SCalls E f raw h (Ret v h) :=
  ⟨hc.1, fun w I G vs g r => by
    refine (hc.2 w _ _ vs g.all (k w I G vs g r)).mono ?_
    rintro e w' ⟨I', G', h', g', s, q⟩
    cases e with
    | returned u =>
      obtain ⟨p, hp, q1, q2⟩ := q
      injection q1 with q1
      subst q1
      have b : Below w.heap.size w w' := ⟨s.os, s.tape, s.output, s.size, fun k hk => (s.keep k hk rfl rfl).1⟩
      obtain ⟨g1, s1⟩ := g.below b hm
      exact ⟨I, G, h, g1, s1, _, hv _ _ _ hp _ _, rfl, rfl⟩
    | panicked c => obtain ⟨q1, _⟩ := q; cases q1
    | outgrown => exact q.elim⟩
theorem R0s.lendTo {w : World} {I I' : Nat → Prop} {x y : PV} (hk : Keeps w I w I') (hr : ∀ u, R0 w I y u → R0 w I' x u) (post : List PV) : ∀ (pre : List PV) (vs : List Value), R0s w I (pre ++ y :: post) vs → R0s w I' (pre ++ x :: post) vs
  | [], _, ⟨u, us, e, h1, h2⟩ => ⟨u, us, e, hr u h1, R0s.keeps hk _ _ h2⟩
  | p :: pre, _, ⟨u, us, e, h1, h2⟩ => ⟨u, us, e, R0.keeps hk _ _ h1, R0s.lendTo hk hr post pre us h2⟩
theorem SCalls.lendOwn {f : FuncId} (pre post : List PV) {v u : PV} {h0 H : Heap} {e : TypeId} {sz : Nat} {xs : List (List PV)} (hc : SCalls E f (pre ++ .list sz xs :: post) noHeap (Ret v noHeap)) (hv : v.Plain) (ow : Own h0 e sz xs u H) (hm : E.mono = false := by rfl) : SCalls E f (pre ++ u :: post) H (Ret v H) :=
  hc.lend hv (fun w I G vs g r => by
    obtain ⟨I', G', g', s, hk, hr⟩ := ow.letGo1 g
    have hk2 : Keeps w I w (fun b => b < w.heap.size) := fun k hk => ⟨g.imm k hk, rfl⟩
    have hk3 : Keeps w I' w (fun b => b < w.heap.size) := fun k hk => ⟨g'.imm k hk, rfl⟩
    refine R0s.lendTo hk2 (fun u0 h0 => ?_) post pre vs r
    have h1 : R1 w I u u0 := by
      rcases ow with ⟨rfl, _⟩ | ⟨_, _, rfl, _⟩ <;> exact h0
    exact R1.keeps hk3 _ _ (hr _ h1)) hm
end Go.Proofs.YtincpomenogppaaGreatDoor.Lift

namespace Go.Proofs.YtincpomenogppaaGreatDoor.Lift
open Go Go.RowKit

section
variable {E : Env} {S : Specs E} {w w1 w' : World} {I I1 I' : Nat → Prop} {G G1 G' : Nat → Option Nat} {h : Heap} {ops : Array Oper} {md : Region.Mode}
end
end Go.Proofs.YtincpomenogppaaGreatDoor.Lift

namespace Go.Proofs.YtincpomenogppaaGreatDoor.Lift
open Go Go.RowKit
variable {E : Env} {h : Heap}

def plain1 : PV → Prop
  | .int _ _ => True
  | .bool _ => True
  | .str _ => True
  | _ => False
theorem RL_plain {w w' : World} {I I' : Nat → Prop} : ∀ {cs : List PV} {us : List Value}, (∀ c ∈ cs, plain1 c) → RL w I cs us → RL w' I' cs us
  | [], _, _, h => h
  | c :: cs, _, hp, ⟨u, us', e, h1, h2⟩ => by
    refine ⟨u, us', e, ?_, RL_plain (fun x hx => hp x (List.mem_cons_of_mem _ hx)) h2⟩
    have := hp c (List.mem_cons_self ..)
    cases c <;> first | exact h1 | exact this.elim
theorem SCalls.lendO {f : FuncId} {args raw : List PV} {e : TypeId} {sz : Nat} {xs : List (List PV)} (hc : SCalls E f args noHeap (fun en h' => ∃ u, en = .ret u ∧ Own noHeap e sz xs u h')) (hv : ∀ c ∈ xs.flatten, plain1 c)
    (k : ∀ w I G vs, Good E w I G h → R0s w I raw vs → R0s w (fun b => b < w.heap.size) args vs) (hm : E.mono = false := by rfl) : SCalls E f raw h (fun en h' => ∃ u, en = .ret u ∧ Own h e sz xs u h') :=
  ⟨hc.1, fun w I G vs g r => by
    refine (hc.2 w _ _ vs g.all (k w I G vs g r)).mono ?_
    rintro en w' ⟨I', G', h', g', s, q⟩
    cases en with
    | returned u =>
      obtain ⟨p, hp, u1, q1, ow⟩ := q
      injection q1 with q1
      subst q1
      have b : Below w.heap.size w w' := ⟨s.os, s.tape, s.output, s.size, fun k hk => (s.keep k hk rfl rfl).1⟩
      obtain ⟨g1, s1⟩ := g.below b hm
      rcases ow with ⟨rfl, hx, _⟩ | ⟨r0, cap, rfl, o1, o2, o3, o4, o5⟩
      · have hp2 : R w' I (.val (.slice none 0 0)) u := hp
        exact ⟨I, G, h, g1, s1, _, hp2, _, rfl, .inl ⟨rfl, hx, rfl⟩⟩
      · have hr0 : h' r0 = some (.cells e (cap * sz) xs.flatten) := by rw [o4]; exact Heap.put_same _ _ _
        obtain ⟨l1, l2, l3, us, rest, hh, hr, hsz⟩ := g'.own _ _ hr0
        have hge : ¬ r0 < w.heap.size := fun hlt => l2 (s.imm r0 hlt)
        have hI : ¬ I r0 := fun hi => hge (g.imm r0 hi)
        have hG : G r0 = none := by
          cases e1 : G r0 with
          | none => rfl
          | some x => exact absurd (g.hid r0 x e1).1 hge
        have hhr : h r0 = none := by
          cases e1 : h r0 with
          | none => rfl
          | some x => exact absurd (g.own r0 x e1).1 hge
        have hGx : ∀ k, G k = some r0 → False := fun k e1 => by
          obtain ⟨_, _, _, T, e2, bs, e3⟩ := g.hid k r0 e1
          rw [hhr] at e3; cases e3
        have hp2 : R w' I (.val (.slice (some ⟨r0, 0, none⟩) xs.length cap)) u := hp
        refine ⟨I, G, h.put r0 (.cells e (cap * sz) xs.flatten), ⟨fun r o e1 => ?_, fun k r e1 => ?_, g1.imm, g1.glob, g1.inv⟩, ⟨s1.os, s1.tape, s1.output, s1.size, fun k hk a c => ?_, s1.imm, s1.far, s1.drawn⟩, _, hp2, _, rfl, .inr ⟨r0, cap, rfl, o1, o2, hhr, rfl, o5⟩⟩
        · by_cases e2 : r = r0
          · subst e2
            rw [Heap.put_same] at e1
            injection e1 with e1
            subst e1
            exact ⟨l1, hI, hG, us, rest, hh, RL_plain hv hr, hsz⟩
          · rw [Heap.put_ne _ _ e2] at e1
            obtain ⟨k1, k2, k3, k4⟩ := g1.own r o e1
            exact ⟨k1, k2, k3, k4⟩
        · obtain ⟨k1, k2, k3, T, e2, bs, e3⟩ := g1.hid k r e1
          have hkr : k ≠ r0 := fun e2 => by subst e2; rw [hG] at e1; cases e1
          have hrr : r ≠ r0 := fun e2 => by subst e2; exact hGx k e1
          exact ⟨k1, k2, by rw [Heap.put_ne _ _ hkr]; exact k3, T, e2, bs, by rw [Heap.put_ne _ _ hrr]; exact e3⟩
        · have hkr : k ≠ r0 := fun e2 => hge (e2 ▸ hk)
          obtain ⟨m1, m2, m3⟩ := s1.keep k hk a c
          exact ⟨m1, by rw [Heap.put_ne _ _ hkr]; exact m2, m3⟩
    | panicked c => obtain ⟨_, q1, _⟩ := q; cases q1
    | outgrown => exact q.elim⟩
theorem SCalls.lendOwnO {f : FuncId} (pre post : List PV) {u : PV} {h0 H : Heap} {e e' : TypeId} {sz sz' : Nat} {xs ys : List (List PV)} (hc : SCalls E f (pre ++ .list sz xs :: post) noHeap (fun en h' => ∃ u, en = .ret u ∧ Own noHeap e' sz' ys u h')) (hv : ∀ c ∈ ys.flatten, plain1 c) (ow : Own h0 e sz xs u H) (hm : E.mono = false := by rfl) : SCalls E f (pre ++ u :: post) H (fun en h' => ∃ u, en = .ret u ∧ Own H e' sz' ys u h') :=
  hc.lendO hv (fun w I G vs g r => by
    obtain ⟨I', G', g', s, hk, hr⟩ := ow.letGo1 g
    have hk2 : Keeps w I w (fun b => b < w.heap.size) := fun k hk => ⟨g.imm k hk, rfl⟩
    have hk3 : Keeps w I' w (fun b => b < w.heap.size) := fun k hk => ⟨g'.imm k hk, rfl⟩
    refine R0s.lendTo hk2 (fun u0 h0 => ?_) post pre vs r
    have h1 : R1 w I u u0 := by
      rcases ow with ⟨rfl, _⟩ | ⟨_, _, rfl, _⟩ <;> exact h0
    exact R1.keeps hk3 _ _ (hr _ h1)) hm
end Go.Proofs.YtincpomenogppaaGreatDoor.Lift

namespace Go.Proofs.YtincpomenogppaaGreatDoor.Lift
open Go Go.RowKit
section
variable {E : Env} {S : Specs E} {md : Region.Mode} {ops : Array Oper} {w w1 w' : World} {I I1 I' : Nat → Prop} {G G1 G' : Nat → Option Nat} {h h' : Heap}
def keptE (kept : Nat → Prop) : PV → Prop
  | .val (.pointer (some x)) => kept x.block
  | .elem _ => True
  | _ => False
def wpE (E : Env) (S : Specs E) (ops : Array Oper) (kept : Nat → Prop) : List (Nat × Bool) → (AS → Prop) → AS → Prop
  | [], Q, a => Q a
  | i :: l, Q, a => (i.2 = true → keptE kept (a.get (ptrAt ops i.1))) ∧ LOp E S ops i.1 (wpE E S ops kept l Q) a
theorem px_keptE {ρ : Operand → PV} {op : Op} {kept : Nat → Prop} {h h' : Heap} (hl : isTmpLoad op = true) (hk : ∀ r, kept r → h' r = h r) (hp : keptE kept (ρ (.tmp (ptrT op)))) : px E S ρ h' op = px E S ρ h op := by
  unfold isTmpLoad at hl
  split at hl
  · rename_i t p
    simp only [ptrT] at hp
    simp only [px, pload]
    cases E.ty t with
    | none => rfl
    | some i =>
      dsimp only
      split
      · rfl
      · rename_i r o hp2
        rw [hp2] at hp
        rw [hk r hp]
      · rfl
  · cases hl
theorem wpE_anyG {M : HandG E ops} {kept : Nat → Prop} (hkept : ∀ p h', M.Rel p h' → ∀ r, kept r → h' r = M.H r) {L1 : Array Bool} {last : Nat} {Q : AS → Prop} : ∀ (l : List (Nat × Bool)) (listed : Array Bool) (a : AS), (markL (l.map Prod.fst) listed).setIfInBounds M.m true = L1 → Closed md ops listed → ordOKM S md ops M.m last l listed = true →
    wpE E S ops kept l (HandOK E ops M.o M.xs M.A M.H M.Rel Q) a → LAnyH E S md ops M L1 last Q (l.length + 1) listed a
  | [], listed, a, hm, _, hB, h => by
    simp only [ordOKM, Bool.and_eq_true] at hB
    have b1 : Region.ready md ops listed = [M.m] := by simpa using hB.1
    have b2 : Region.ready md ops (listed.setIfInBounds M.m true) = [last] := by simpa using hB.2
    have hm : listed.setIfInBounds M.m true = L1 := hm
    refine ⟨fun e => (by rw [e] at b1; cases b1), fun i hi => ?_⟩
    rw [b1] at hi
    obtain rfl : i = M.m := by simpa using hi
    unfold LOpG
    rw [if_pos rfl]
    exact HandOK.mono (fun b k => ⟨hm, b2, b, .refl b, k⟩) h
  | (i, b) :: l, listed, a, hm, hcl, hB, h => by
    simp only [ordOKM, Bool.and_eq_true] at hB
    obtain ⟨⟨⟨⟨⟨hr, hi⟩, hne⟩, hwl⟩, hf⟩, hB'⟩ := hB
    obtain ⟨oi, hi⟩ := Option.isSome_iff_exists.1 hi
    have hr : i ∈ Region.ready md ops listed := by simpa using hr
    have hne : i ≠ M.m := by simpa using hne
    simp only [freeM, hi, Bool.and_eq_true, List.all_eq_true, List.mem_range] at hf
    obtain ⟨⟨⟨hq, hb⟩, hbm⟩, hfree⟩ := hf
    have hpi : ptrAt ops i = ptrT oi.op := by simp only [ptrAt, hi]
    simp only [wpE] at h
    obtain ⟨hd, h⟩ := h
    rw [hpi] at hd
    obtain ⟨v, hy, hk⟩ := h.ly hi hq
    refine LAnyH.first (P := fun a => b = true → keptE kept (a.get (ptrT oi.op))) hi hne hwl hq ?_ ?_ (l.length + 1) listed a ?_ hcl hr hy hd (wpE_anyG hkept l _ _ hm (hcl.step hr) hB' hk)
    · intro k ok hok hki hap a u h' hP hb1
      have hP := hP hb1
      have n1 : ok.dst ≠ some (ptrT oi.op) := by
        intro e
        refine (Oper.apart_spec hap).2.2 _ e ?_
        rw [hb1] at hb
        have hb : isTmpLoad oi.op = true := by simpa using hb
        unfold isTmpLoad at hb
        split at hb
        · rename_i t p hop
          rw [hop]
          refine List.mem_append_left _ (List.mem_filterMap.2 ⟨.tmp p, ?_, rfl⟩)
          rw [hop]
          simp [Op.operands]
        · cases hb
      have hget : ({ a.put ok.dst u with h := h' } : AS).get (ptrT oi.op) = a.get (ptrT oi.op) := by
        show (a.put ok.dst u).get (ptrT oi.op) = a.get (ptrT oi.op)
        cases hdst : ok.dst with
        | none => rfl
        | some d =>
          rw [hdst] at n1
          rw [AS.get_put, if_neg (fun e => n1 (by rw [e]))]
      rw [hget]
      exact hP
    · intro hwm a hP hH p h' hrel
      rw [hwm, Bool.false_or] at hbm
      cases b with
      | true =>
        have hb : isTmpLoad oi.op = true := by simpa using hb
        exact px_keptE hb (fun r hr => by rw [hH]; exact hkept p h' hrel r hr) (hP rfl)
      | false => exact px_heap (by simpa using hbm) _ _
    · intro j oj hj hji hun hno
      have h1 := hfree j (Array.getElem?_eq_some_iff.1 hj).1
      simp only [hj, Bool.or_eq_true, beq_iff_eq, hji, false_or, hun, Bool.false_eq_true] at h1
      rcases h1 with h1 | h1
      · rw [hno] at h1; cases h1
      · rw [Bool.and_eq_true] at h1
        refine ⟨h1.1, fun hjm => ?_⟩
        have h2 := h1.2
        rw [Bool.or_eq_true, Bool.not_eq_true'] at h2
        rcases h2 with h2 | h2
        · exact absurd (by simpa using h2) hjm
        · exact h2
theorem RestC.cutE (S : Specs E) {Q : Exit → AS → Prop} {listed : Array Bool} {a : AS} (M : HandG E ops) (kept : Nat → Prop) (hkept : ∀ p h', M.Rel p h' → ∀ r, kept r → h' r = M.H r) (pre : List (Nat × Bool)) (last : Nat) {k n : Nat} (hn : n = pre.length + 1 + k) (hB : ordOKM S .any ops M.m last pre listed = true)
    (h : wpE E S ops kept pre (HandOK E ops M.o M.xs M.A M.H M.Rel (RestC E ops Q k ((markL (pre.map Prod.fst) listed).setIfInBounds M.m true))) a) : RestC E ops Q n listed a := by
  intro hcl
  subst hn
  have cl : ∀ (l : List (Nat × Bool)) (L : Array Bool), Closed .any ops L → ordOKM S .any ops M.m last l L = true → Closed .any ops ((markL (l.map Prod.fst) L).setIfInBounds M.m true) := by
    intro l
    induction l with
    | nil =>
      intro L hc hB
      simp only [ordOKM, Bool.and_eq_true] at hB
      have b1 : Region.ready .any ops L = [M.m] := by simpa using hB.1
      exact hc.step (by rw [b1]; exact List.mem_singleton.2 rfl)
    | cons i l ih =>
      intro L hc hB
      simp only [ordOKM, Bool.and_eq_true] at hB
      have hr : i.1 ∈ Region.ready .any ops L := by simpa using hB.1.1.1.1.1
      exact ih _ (hc.step hr) hB.2
  have h2 := wpE_anyG (md := .any) hkept pre listed a rfl hcl hB h
  exact LAnyH.sound (fun c hc => hc (cl pre listed hcl hB)) _ h2
end
end Go.Proofs.YtincpomenogppaaGreatDoor.Lift
