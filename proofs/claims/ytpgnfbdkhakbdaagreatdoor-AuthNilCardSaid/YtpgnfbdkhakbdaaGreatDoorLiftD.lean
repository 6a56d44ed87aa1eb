/- Panics, and calls that wait at a function's door. -/
import Derived.Test.YtpgnfbdkhakbdaaGreatDoorLiftW
import Derived.Defers
import Derived.Recover
import Derived.Maps.RangeRun
import Derived.Scope
import Derived.Test.YtpgnfbdkhakbdaaGreatDoorLiftQ
import Derived.OpenShut
import Derived.DataElems
set_option linter.unusedSimpArgs false
set_option linter.unusedVariables false
namespace Go.Proofs.YtpgnfbdkhakbdaaGreatDoor.Lift
open Go Go.RowKit
variable {E : Env}
def Env.withD (E : Env) (D : List Deferred) : Env := { E with D := D }
variable {w w' : World} {I I' : Nat → Prop} {G G' : Nat → Option Nat} {h h' : Heap} {D : List Deferred}
theorem Good.withD (g : Good E w I G h) (D : List Deferred) : Good (E.withD D) w I G h := ⟨g.own, g.hid, g.imm, g.glob, g.inv⟩
theorem Good.noD (g : Good (E.withD D) w I G h) : Good E w I G h := ⟨g.own, g.hid, g.imm, g.glob, g.inv⟩
theorem SCalls.withD {f : FuncId} {args : List PV} {Q : SEnd → Heap → Prop} (hc : SCalls E f args h Q) (D : List Deferred) : SCalls (E.withD D) f args h Q :=
  ⟨hc.1, fun w I G vs g r => (hc.2 w I G vs g.noD r).mono fun _ _ ⟨I', G', h', g', s, q⟩ => ⟨I', G', h', g'.withD D, s, q⟩⟩
theorem XCalls.withD {f : FuncId} {args : List PV} {v : PV} (hc : XCalls E f args h v) (D : List Deferred) : XCalls (E.withD D) f args h v :=
  fun w I G vs g r => hc w I G vs g.noD r
theorem FCalls.withD {f : FuncId} {args : List PV} {v : PV} (hc : FCalls E f args h v) (D : List Deferred) : FCalls (E.withD D) f args h v := by
  exact hc.imp (fun c => c.withD D) (fun c => c.withD D)
def SpecE.withD (s : SpecE E) (D : List Deferred) : SpecE (E.withD D) := ⟨s.f, s.s, fun args h hc => (s.ok args h hc).withD D⟩
def SpecH.withD (s : SpecH E) (D : List Deferred) : SpecH (E.withD D) := ⟨s.f, s.s, fun args h hc => (s.ok args h hc).withD D⟩
end Go.Proofs.YtpgnfbdkhakbdaaGreatDoor.Lift

namespace Go.Proofs.YtpgnfbdkhakbdaaGreatDoor.Lift
open Go Go.RowKit
section
variable {E : Env} {w w1 w' : World} {I I1 I' : Nat → Prop} {G G1 G' : Nat → Option Nat} {h h' : Heap}

theorem eq_same : ∀ {ks : List CK} {x y : List PV} {us vs : List Value}, fits ks x = true → fits ks y = true → eqCells x y = true → RL w I x us → RL w I y vs → us = vs
  | [], [], [], _, _, _, _, _, h1, h2 => by
    have h1 : _ = [] := h1
    have h2 : _ = [] := h2
    rw [h1, h2]
  | [], _ :: _, _, _, _, h, _, _, _, _ => by cases h
  | [], [], _ :: _, _, _, _, h, _, _, _ => by cases h
  | c :: ks, [], _, _, _, h, _, _, _, _ => by cases c <;> cases h
  | c :: ks, _ :: _, [], _, _, _, h, _, _, _ => by cases c <;> cases h
  | c :: ks, x :: xs, y :: ys, us, vs, hx, hy, he, ⟨u, us', e1, r1, l1⟩, ⟨v, vs', e2, r2, l2⟩ => by
    subst e1; subst e2
    cases c with
    | int q =>
      cases x <;> simp [fits] at hx
      cases y <;> simp [fits] at hy
      simp only [eqCells, Bool.and_eq_true, beq_iff_eq] at he
      obtain rfl : u = _ := r1
      obtain rfl : v = _ := r2
      rw [eq_same hx.2 hy.2 he.2 l1 l2, he.1, ← hx.1, ← hy.1]
    | bool =>
      cases x <;> simp [fits] at hx
      cases y <;> simp [fits] at hy
      simp only [eqCells, Bool.and_eq_true, beq_iff_eq] at he
      obtain rfl : u = _ := r1
      obtain rfl : v = _ := r2
      rw [eq_same hx hy he.2 l1 l2, he.1]
    | str =>
      cases x <;> simp [fits] at hx
      cases y <;> simp [fits] at hy
      simp only [eqCells, Bool.and_eq_true, beq_iff_eq] at he
      obtain rfl : u = _ := r1
      obtain rfl : v = _ := r2
      rw [eq_same hx hy he.2 l1 l2, he.1]
theorem RM.set {ka va : Bool} {ks : List CK} {k v : List PV} {ku vu : List Value} {n : Nat} (hk : fits ks k = true) (hku : RL w I k ku) (hvu : RL w I v vu) :
    ∀ {es : List (List PV × List PV × Nat)} {ents : List MapEntry} (i0 : Nat), (es.all fun e => fits ks e.1) = true → RM w I ka va es ents →
      (mfindI k es i0 = none ∧ RM w I ka va (mset k v n es) (ents ++ [⟨ofCells ka ku, ofCells va vu, n⟩])) ∨
      (∃ j x, mfindI k es i0 = some (i0 + j, x) ∧ (ents[j]?).map (·.key) = some (ofCells ka ku) ∧ RM w I ka va (mset k v n es) (ents.modify j fun e => { e with key := ofCells ka ku, val := ofCells va vu }))
  | [], ents, i0, _, h => by
    have h : ents = [] := h
    subst h
    exact .inl ⟨rfl, ku, vu, [], rfl, hku, hvu, rfl⟩
  | e :: es, ents, i0, hf, ⟨ku2, vu2, ents', e1, h1, h2, h3⟩ => by
    subst e1
    simp only [List.all_cons, Bool.and_eq_true] at hf
    by_cases he : eqCells k e.1 = true
    · right
      have hs := eq_same hk hf.1 he hku h1
      refine ⟨0, e.2.1, by simp [mfindI, he], by simp [hs], ?_⟩
      simp only [mset, he, if_true]
      exact ⟨ku, vu, ents', rfl, hku, hvu, h3⟩
    · have he' : eqCells k e.1 = false := by simpa using he
      rcases RM.set hk hku hvu (n := n) (i0 + 1) hf.2 h3 with ⟨a1, a2⟩ | ⟨j, x, a1, a2, a3⟩
      · left
        refine ⟨by simp [mfindI, he', a1], ?_⟩
        simp only [mset, he']
        exact ⟨ku2, vu2, _, rfl, h1, h2, a2⟩
      · right
        refine ⟨j + 1, x, by simp only [mfindI, he', Bool.false_eq_true, if_false, a1]; congr 2; omega, by simpa using a2, ?_⟩
        simp only [mset, he']
        exact ⟨ku2, vu2, _, rfl, h1, h2, a3⟩
theorem RM.del {ka va : Bool} {k : List PV} : ∀ {es : List (List PV × List PV × Nat)} {ents : List MapEntry} (i0 : Nat), RM w I ka va es ents →
      (mfindI k es i0 = none ∧ mdel k es = es) ∨ (∃ j x, mfindI k es i0 = some (i0 + j, x) ∧ j < ents.length ∧ RM w I ka va (mdel k es) (ents.eraseIdx j))
  | [], ents, i0, h => .inl ⟨rfl, rfl⟩
  | e :: es, ents, i0, ⟨ku2, vu2, ents', e1, h1, h2, h3⟩ => by
    subst e1
    by_cases he : eqCells k e.1 = true
    · right
      refine ⟨0, e.2.1, by simp [mfindI, he], by simp, ?_⟩
      simp only [mdel, he, if_true]
      exact h3
    · have he' : eqCells k e.1 = false := by simpa using he
      rcases RM.del (k := k) (i0 + 1) h3 with ⟨a1, a2⟩ | ⟨j, x, a1, a2, a3⟩
      · left
        exact ⟨by simp [mfindI, he', a1], by simp [mdel, he', a2]⟩
      · right
        refine ⟨j + 1, x, by simp only [mfindI, he', Bool.false_eq_true, if_false, a1]; congr 2; omega, by simpa using a2, ?_⟩
        simp only [mdel, he']
        exact ⟨ku2, vu2, _, rfl, h1, h2, a3⟩
end
end Go.Proofs.YtpgnfbdkhakbdaaGreatDoor.Lift

namespace Go.Proofs.YtpgnfbdkhakbdaaGreatDoor.Lift
open Go Go.RowKit
variable {E : Env}
theorem Own.slice {h0 H : Heap} {e : TypeId} {sz : Nat} {xs : List (List PV)} {v : PV} (o : Own h0 e sz xs v H) : ∃ A c, v = .val (.slice A xs.length c) := by
  rcases o with ⟨rfl, rfl, _⟩ | ⟨r, cap, rfl, _⟩
  · exact ⟨none, 0, rfl⟩
  · exact ⟨_, _, rfl⟩
theorem HTo.own {E : Env} {h0 H : Heap} {e : TypeId} {sz : Nat} {xs : List (List PV)} {v : PV} (o : Own h0 e sz xs v H) : HTo E H h0 := by
  rcases o with ⟨_, _, rfl⟩ | ⟨r, cap, _, _, _, hr, rfl, _⟩
  · exact .refl _ _
  · exact HTo.put (.refl _ _) hr _
theorem HTo.of {h H : Heap} (hk : ∀ k X, h k = some X → H k = some X) : HTo E H h := HSub.to fun k => by
  cases e : h k with
  | none => exact .inl rfl
  | some X => exact .inr (hk k X e).symm
theorem Own.base {h0 H : Heap} {e : TypeId} {sz : Nat} {xs : List (List PV)} {v : PV} (o : Own h0 e sz xs v H) {k : Nat} {X : AObj} (hk : h0 k = some X) : H k = some X := by
  rcases o with ⟨_, _, rfl⟩ | ⟨r, cap, _, _, _, hr, rfl, _⟩
  · exact hk
  · rw [Heap.put_ne _ _ (fun e => by rw [e, hr] at hk; cases hk)]; exact hk
end Go.Proofs.YtpgnfbdkhakbdaaGreatDoor.Lift

namespace Go.Proofs.YtpgnfbdkhakbdaaGreatDoor.Lift
open Go Go.RowKit
section
variable {E : Env} {w w1 w' : World} {I I1 I' : Nat → Prop} {G G1 G' : Nat → Option Nat} {h h' : Heap}

def noGo (Q : Exit → AS → Prop) : Exit → AS → Prop
  | .goto _, _ => False
  | .normal, a => Q .normal a
  | .exit id, a => Q (.exit id) a
  | .ret, a => Q .ret a
  | .panic c, a => Q (.panic c) a
  | .outgrown, a => Q .outgrown a
theorem SW.scope {c : Code} {Q : Exit → AS → Prop} {a : AS} (h : SW E c (noGo Q) a) : SW E (.scope c) Q a := by
  intro w I G act g r
  refine wp_scope_straight (wp_mono (h w I G act g r) ?_)
  intro e act' w' ⟨a', I', G', g', r', s', q⟩
  cases e with
  | goto l => exact q.elim
  | _ => exact ⟨a', I', G', g', r', s', q⟩
theorem RM.at {ka va : Bool} : ∀ {es : List (List PV × List PV × Nat)} {ents : List MapEntry}, RM w I ka va es ents → ∀ e ∈ es, ∃ ku vu, (⟨ofCells ka ku, ofCells va vu, e.2.2⟩ : MapEntry) ∈ ents ∧ RL w I e.1 ku ∧ RL w I e.2.1 vu
  | [], _, _, e, he => by cases he
  | x :: es, _, ⟨ku, vu, ents', e1, h1, h2, h3⟩, e, he => by
    subst e1
    rcases List.mem_cons.1 he with rfl | he
    · exact ⟨ku, vu, List.mem_cons_self .., h1, h2⟩
    · obtain ⟨ku', vu', k1, k2, k3⟩ := RM.at h3 e he
      exact ⟨ku', vu', List.mem_cons_of_mem _ k1, k2, k3⟩
theorem splice_nil (cs : List PV) (o : Nat) : splice cs o [] = cs := by
  unfold splice
  simp
theorem RL_zeros (w2 : World) (I2 : Nat → Prop) {ie : TyI} (hz : okZero ie = true) : ∀ n, RL w2 I2 (List.replicate n (ie.zero.map ofVal)).flatten (List.replicate n ie.zero).flatten
  | 0 => by simp [RL]
  | n + 1 => by
    simp only [List.replicate_succ, List.flatten_cons]
    exact (RL_zero w2 I2 hz).append (RL_zeros w2 I2 hz n)
theorem SWO.clear {ops : Array Oper} {o : Oper} {rest : List Oper} {Q : Exit → AS → Prop} {a : AS} (x : Operand) (t : TypeId) (hop : o.op = .call { callee := .builtin .clear, args := #[x], argTypes := #[t] }) {i ie : TyI} {e : TypeId} (ht : E.ty t = some i) (hk : i.k = .slice e) (he : E.ty e = some ie) (hzl : ie.zero.length = ie.size) (hz : okZero ie = true)
    {r0 o0 n cp : Nat} {t' : TypeId} {size : Nat} {cs : List PV} (hx : a.eval E x = .val (.slice (some ⟨r0, o0, none⟩) n cp)) (hr0 : a.h r0 = some (.cells t' size cs)) (hfit : o0 + n * ie.size ≤ cs.length) (hg : wantedA ops a o = some true) (hd : okDst a.n o.dst = true)
    (k : SWO E ops rest Q { a.put o.dst (.tuple []) with h := a.h.put r0 (.cells t' size (splice cs o0 (List.replicate n (ie.zero.map ofVal)).flatten)) }) : SWO E ops (o :: rest) Q a := by
  refine SWO.to hg hd fun w I G act g r => ?_
  have hdt := ty_under ht
  rw [hk] at hdt
  have hx' := r.eval g x
  rw [hx] at hx'
  have hx' := R_val hx'
  obtain ⟨_, _, _, us, rs, hh, hr, hl⟩ := g.own _ _ hr0
  have hrl := hr.length
  by_cases h0 : n = 0
  · subst h0
    have e0 : a.h.put r0 (.cells t' size (splice cs o0 (List.replicate 0 (ie.zero.map ofVal)).flatten)) = a.h := by
      rw [List.replicate_zero, List.flatten_nil, splice_nil]
      funext q
      by_cases e : q = r0
      · subst e; rw [Heap.put_same, hr0]
      · rw [Heap.put_ne _ _ e]
    rw [e0] at k
    refine ⟨_, .tuple #[], w, I, G, _, .tuple [], ?_, .inl rfl, g, .refl .., ⟨[], rfl, rfl⟩, k⟩
    simp [execOp, hop, resolve, invoke, builtin, hx', Builtin.clear_, run_underlying hdt]
  · obtain ⟨z, hzr, hzc⟩ := ty_zero he w
    have hcells : (Builtin.zeroCells z.cells n).toList = (List.replicate n ie.zero).flatten := by
      have := zeroRow ie.zero n
      have e2 : z.cells = ie.zero.toArray := by apply Array.ext'; simp [hzc]
      unfold Builtin.zeroCells
      rw [List.size_toArray] at this
      rw [e2, List.size_toArray, this]
    have hvl : (List.replicate n ie.zero).flatten.length = n * ie.size := by rw [rep_len, hzl]
    have hone : ∀ v ∈ (List.replicate n ie.zero).flatten, v.oneCell' = true := by
      intro v hv
      obtain ⟨l, hl1, hl2⟩ := List.mem_flatten.1 hv
      rw [(List.mem_replicate.1 hl1).2] at hl2
      unfold okZero at hz
      rw [List.all_eq_true] at hz
      exact hz v hl2
    have hRL : ∀ (w2 : World) (I2 : Nat → Prop), RL w2 I2 (List.replicate n (ie.zero.map ofVal)).flatten (List.replicate n ie.zero).flatten := by
      intro w2 I2
      exact RL_zeros w2 I2 hz n
    have hst := run_storeCells_at E.P r0 o0 t' (List.replicate n ie.zero).flatten 0 (us ++ rs).toArray w hh (by simp only [List.size_toArray, List.length_append]; omega) hone
    simp only [Nat.add_zero] at hst
    let w2 := w.setRow r0 (us.take o0 ++ (List.replicate n ie.zero).flatten ++ us.drop (o0 + (List.replicate n ie.zero).flatten.length) ++ rs).toArray
    have hob : RObj w2 I G r0 (.cells t' size (splice cs o0 (List.replicate n (ie.zero.map ofVal)).flatten)) := by
      have hk2 : Keeps w I w2 I := fun k hk => ⟨hk, setRow_other w r0 k _ (fun e => (g.own _ _ hr0).2.1 (e ▸ hk))⟩
      refine ⟨_, rs, setRow_heap w r0 _ _ t' (0, 0) hh, RL.keeps hk2 _ _ (hr.splice (hRL w I) o0), ?_⟩
      simp only [List.length_append, List.length_take, List.length_drop]
      omega
    obtain ⟨g', s⟩ := g.write hr0 rfl (by simp [w2]) (fun k hk => setRow_other w r0 k _ hk) rfl rfl rfl hob
    refine ⟨_, .tuple #[], w2, I, G, _, .tuple [], ?_, .inl rfl, g', s, ⟨[], rfl, rfl⟩, k⟩
    have hw2 : (storeCells ⟨r0, o0, none⟩ (List.replicate n ie.zero).flatten).run E.P w = .ok () w2 := by
      rw [hst]
      congr 2
      have h1 : o0 ≤ us.length := by omega
      have h2 : o0 + (List.replicate n ie.zero).flatten.length ≤ us.length := by omega
      rw [List.take_append_of_le_length h1, List.drop_append_of_le_length h2]
      simp
    obtain ⟨m, rfl⟩ : ∃ m, n = m + 1 := ⟨n - 1, by omega⟩
    simp [execOp, hop, resolve, invoke, builtin, hx', Builtin.clear_, run_underlying hdt, hzr, hcells, hw2]
end
end Go.Proofs.YtpgnfbdkhakbdaaGreatDoor.Lift

namespace Go.Proofs.YtpgnfbdkhakbdaaGreatDoor.Lift
open Go Go.RowKit
section
variable {E : Env} {S : Specs E} {md : Region.Mode} {ops : Array Oper} {w w1 w' : World} {I I1 I' : Nat → Prop} {G G1 G' : Nat → Option Nat} {h h' : Heap}

def LAnyB (E : Env) (S : Specs E) (md : Region.Mode) (ops : Array Oper) (last : Nat) (Q : AS → Prop) : Nat → Array Bool → AS → Prop
  | 0, listed, a => Region.ready md ops listed = [last] ∧ Region.ready md ops (listed.setIfInBounds last true) = [] ∧ Q a
  | fuel + 1, listed, a => Region.ready md ops listed ≠ [] ∧ ∀ i ∈ Region.ready md ops listed, LOp E S ops i (LAnyB E S md ops last Q fuel (listed.setIfInBounds i true)) a
theorem AEq.lanyB {last : Nat} {Q : AS → Prop} (hQ : ∀ a b, AEq a b → Q a → Q b) : ∀ (fuel : Nat) {listed : Array Bool} {a b : AS}, AEq a b → LAnyB E S md ops last Q fuel listed a → LAnyB E S md ops last Q fuel listed b
  | 0, _, _, _, e, h => ⟨h.1, h.2.1, hQ _ _ e h.2.2⟩
  | fuel + 1, _, _, _, e, h => ⟨h.1, fun i hi => e.lop (fun _ _ e h => AEq.lanyB hQ fuel e h) (h.2 i hi)⟩
theorem LAnyB.sound {last : Nat} {o : Oper} (ho : ops[last]? = some o) {Q : AS → Prop} {R : Exit → AS → Prop} (hQ : ∀ a, Q a → ∃ c, AEq c a ∧ SWO E ops [o] R c) : ∀ (fuel : Nat) {listed : Array Bool} {a : AS}, LAnyB E S md ops last Q fuel listed a → ∀ {w I G act}, Good E w I G a.h → RS E w I a act → ∀ {w0 I0 G0 h0}, Stp E.mono w0 I0 G0 h0 w I G a.h →
    wpAny E.P md ops (Post E w0 I0 G0 h0 R) (fuel + 1) listed act w
  | 0, listed, a, h, w, I, G, act, g, r, w0, I0, G0, h0, s => by
    obtain ⟨h1, h2, h3⟩ := h
    refine ⟨fun e => (by rw [h1] at e; cases e), fun i hi => ?_⟩
    rw [h1] at hi
    obtain rfl : i = last := by simpa using hi
    obtain ⟨c, hc, hs⟩ := hQ a h3
    have gc : Good E w I G c.h := by rw [hc.2.1]; exact g
    have hc' : AEq a c := ⟨hc.1.symm, hc.2.1.symm, fun t => (hc.2.2 t).symm⟩
    have rc : RS E w I c act := r.same hc.1 hc.2.2
    have h4 := hs w I G act gc rc
    have s2 : Stp E.mono w0 I0 G0 h0 w I G c.h := by rw [hc.2.1]; exact s
    unfold wpList at h4
    unfold wpOp
    rw [ho]
    dsimp only
    have fin : ∀ act' w', Post E w I G c.h R .normal act' w' → Post E w0 I0 G0 h0 R .normal act' w' := fun _ _ p => Post.trans s2 p
    have k1 : ∀ act' w', wpList E.P ops (Post E w I G c.h R) [] act' w' → wpAny E.P md ops (Post E w0 I0 G0 h0 R) 0 (listed.setIfInBounds i true) act' w' := fun act' w' p => ⟨h2, fin _ _ p⟩
    split
    · rename_i hw
      rw [if_pos hw] at h4
      rcases h4 with h4 | ⟨h5, h6⟩
      · exact .inl (upon_mono k1 (fun e act' w' p => Post.trans s2 p) h4)
      · exact .inr ⟨h5, LetsOut.mono (fun e act' w' p => Post.trans s2 p) h6⟩
    · rename_i hw
      rw [if_neg hw] at h4
      exact k1 _ _ h4
  | fuel + 1, listed, a, h, w, I, G, act, g, r, w0, I0, G0, h0, s => by
    refine ⟨fun e => absurd e h.1, fun i hi => ?_⟩
    have h1 := h.2 i hi
    unfold LOp at h1
    unfold wpOp
    split
    · rename_i e
      rw [e] at h1
      exact LAnyB.sound ho hQ fuel h1 g r s
    · rename_i o e
      rw [e] at h1
      obtain ⟨hd, h1⟩ := h1
      cases hw : wantedA ops a o with
      | none => rw [hw] at h1; simp at h1
      | some b =>
        rw [hw] at h1
        cases b with
        | true =>
          rw [if_pos rfl] at h1
          rw [if_pos (r.wanted hw)]
          exact .inl (step1_wp hd h1 g r fun a' act' w' I' G' g' r' s' k => LAnyB.sound ho hQ fuel k g' r' (s.trans s'))
        | false =>
          rw [if_neg (by simp), if_pos rfl] at h1
          rw [if_neg (by rw [r.wanted hw]; simp)]
          have hh : (a.put o.dst (.tuple [])).h = a.h := put_h a _ _
          exact LAnyB.sound ho hQ fuel h1 (by rw [hh]; exact g) (r.put hd ⟨[], rfl, rfl⟩) (by rw [hh]; exact s)
def lastB (md : Region.Mode) (ops : Array Oper) (last : Nat) : Bool := (List.range ops.size).all fun i => i == last || waits md ops i ops.size last
theorem LAnyB.first {last : Nat} (hlast : lastB md ops last = true) {Q : AS → Prop} (hQ : ∀ a b, AEq a b → Q a → Q b) {i : Nat} {oi : Oper} {v : PV} (hi : ops[i]? = some oi) (hil : i ≠ last) (hq : quietOp S oi.op = true) :
    ∀ (fuel : Nat) (listed : Array Bool) (a : AS),
      (∀ j oj, ops[j]? = some oj → j ≠ i → listed.getD j true = false → waits md ops i ops.size j = false → oi.apart ops oj = true ∧ (isLoad oi.op && hxOp S oj.op) = false) →
      Closed md ops listed → i ∈ Region.ready md ops listed → LY E S ops oi v a →
      LAnyB E S md ops last Q fuel (listed.setIfInBounds i true) (a.put oi.dst v) → LAnyB E S md ops last Q (fuel + 1) listed a := by
  have hw0 : waits md ops i ops.size last = true := by
    unfold lastB at hlast
    rw [List.all_eq_true] at hlast
    have := hlast i (List.mem_range.2 (Array.getElem?_eq_some_iff.1 hi).1)
    simpa [hil] using this
  intro fuel
  induction fuel with
  | zero =>
    intro listed a _ hcl hr hy H
    refine ⟨fun h => (by rw [h] at hr; cases hr), fun j hj => ?_⟩
    by_cases hji : j = i
    · subst hji; exact hy.lop hi hq H
    · have h1 := ready_mono hj hji
      rw [H.1] at h1
      obtain rfl : j = last := by simpa using h1
      obtain ⟨_, oj, hoj, hall⟩ := mem_ready.1 hj
      have hi0 : listed.getD i false = false := by
        have h0 := (mem_ready.1 hr).1
        rcases Nat.lt_or_ge i listed.size with h' | h'
        · simp [h'] at h0 ⊢; exact h0
        · simp [Array.getElem?_eq_none h'] at h0
      rw [waits_no hcl hi0 _ _ _ hoj hall] at hw0
      cases hw0
  | succ fuel ih =>
    intro listed a hfree hcl hr hy H
    refine ⟨fun h => (by rw [h] at hr; cases hr), fun j hj => ?_⟩
    by_cases hji : j = i
    · subst hji; exact hy.lop hi hq H
    · have h1 := H.2 j (ready_mono hj hji)
      obtain ⟨hjun, oj, hoj, hall⟩ := mem_ready.1 hj
      have hi0 : listed.getD i false = false := by
        have h0 := (mem_ready.1 hr).1
        rcases Nat.lt_or_ge i listed.size with h' | h'
        · simp [h'] at h0 ⊢; exact h0
        · simp [Array.getElem?_eq_none h'] at h0
      have hnot : waits md ops i ops.size j = false := waits_no hcl hi0 _ _ _ hoj hall
      obtain ⟨hap, hls⟩ := hfree j oj hoj hji hjun hnot
      have h2 := LOp.past (fun _ _ e k => AEq.lanyB hQ fuel e k) hoj hap hls hy h1
      have hfree' : ∀ k ok, ops[k]? = some ok → k ≠ i → (listed.setIfInBounds j true).getD k true = false →
          waits md ops i ops.size k = false → oi.apart ops ok = true ∧ (isLoad oi.op && hxOp S ok.op) = false := fun k ok hk hki hun hno => by
        refine hfree k ok hk hki ?_ hno
        by_cases hjk : j = k
        · subst hjk; exact hjun
        · rw [getD_set_ne true hjk] at hun; exact hun
      refine LOp.mono (fun a' h3 => ih (listed.setIfInBounds j true) a' hfree' (hcl.step (ready_mono hj hji |> fun _ => hj)) (ready_mono hr (Ne.symm hji)) h3.1 ?_) h2
      rw [Array.setIfInBounds_comm _ _ hji]
      exact h3.2
end
def Inc (h h' : Heap) : Prop := ∀ k X, h k = some X → h' k = some X
theorem Inc.to {E : Env} {h h' : Heap} (i : Inc h h') : HTo E h' h := HTo.of fun k X e => i k X e
theorem Inc.put {h h' : Heap} (i : Inc h h') {r : Nat} (hr : h' r = none) (X : AObj) : Inc h (h'.put r X) := fun k Y e => by
  rw [Heap.put_ne _ _ (by rintro rfl; rw [i _ _ e] at hr; cases hr)]; exact i k Y e
theorem Own.inc {h0 H : Heap} {e : TypeId} {sz : Nat} {xs : List (List PV)} {v : PV} (o : Own h0 e sz xs v H) : Inc h0 H := by
  rcases o with ⟨_, _, rfl⟩ | ⟨r0, cap, h1, h2, h3, h4, rfl, h6⟩
  · exact fun k X e => e
  · exact fun k X e => by rw [Heap.put_ne _ _ (by rintro rfl; rw [h4] at e; cases e)]; exact e
theorem LetGo.nil {E : Env} (H : Heap) (sz : Nat) : LetGo E H (.val (.slice none 0 0)) H (.list sz []) := fun w I G g => ⟨I, G, g, .refl .., fun _ h => ⟨h, rfl⟩, fun u hu => by
  have hu : u = _ := R_val hu
  subst hu
  show R1 _ _ _ _
  simp only [R1]
  exact ⟨none, 0, [], rfl, Nat.le_refl _, by simp [maxLen], by simp [RE], fun h => absurd rfl h⟩⟩
end Go.Proofs.YtpgnfbdkhakbdaaGreatDoor.Lift

namespace Go.Proofs.YtpgnfbdkhakbdaaGreatDoor.Lift
open Go Go.RowKit
section
variable {E : Env} {S : Specs E} {md : Region.Mode} {ops : Array Oper} {w w1 w' : World} {I I1 I' : Nat → Prop} {G G1 G' : Nat → Option Nat} {h h' : Heap}

def LAnyD (E : Env) (S : Specs E) (md : Region.Mode) (ops : Array Oper) (L1 : Array Bool) (last : Nat) (Q : AS → Prop) : Nat → Array Bool → AS → Prop
  | 0, listed, a => listed = L1 ∧ Region.ready md ops listed = [last] ∧ Q a
  | fuel + 1, listed, a => Region.ready md ops listed ≠ [] ∧ ∀ i ∈ Region.ready md ops listed, LOp E S ops i (LAnyD E S md ops L1 last Q fuel (listed.setIfInBounds i true)) a
theorem AEq.lanyD {L1 : Array Bool} {last : Nat} {Q : AS → Prop} (hQ : ∀ a b, AEq a b → Q a → Q b) : ∀ (fuel : Nat) {listed : Array Bool} {a b : AS}, AEq a b → LAnyD E S md ops L1 last Q fuel listed a → LAnyD E S md ops L1 last Q fuel listed b
  | 0, _, _, _, e, h => ⟨h.1, h.2.1, hQ _ _ e h.2.2⟩
  | fuel + 1, _, _, _, e, h => ⟨h.1, fun i hi => e.lop (fun _ _ e h => AEq.lanyD hQ fuel e h) (h.2 i hi)⟩
def RestOK (E : Env) (md : Region.Mode) (ops : Array Oper) (R : Exit → AS → Prop) (f : Nat) (listed : Array Bool) (a : AS) : Prop :=
  ∀ w I G act, Good E w I G a.h → RS E w I a act → ∀ w0 I0 G0 h0, Stp E.mono w0 I0 G0 h0 w I G a.h → wpAny E.P md ops (Post E w0 I0 G0 h0 R) f listed act w
theorem LAnyD.sound {L1 : Array Bool} {last f : Nat} {o : Oper} (ho : ops[last]? = some o) {Q N : AS → Prop} {R : Exit → AS → Prop} (hQ : ∀ a, Q a → ∃ c, AEq c a ∧ SWO E ops [o] (thenQ N R) c) (hN : ∀ a, N a → RestOK E md ops R f (L1.setIfInBounds last true) a) :
    ∀ (fuel : Nat) {listed : Array Bool} {a : AS}, LAnyD E S md ops L1 last Q fuel listed a → RestOK E md ops R (fuel + (f + 1)) listed a
  | 0, listed, a, h => by
    obtain ⟨rfl, h1, h3⟩ := h
    intro w I G act g r w0 I0 G0 h0 s
    rw [Nat.zero_add]
    refine ⟨fun e => (by rw [h1] at e; cases e), fun i hi => ?_⟩
    rw [h1] at hi
    obtain rfl : i = last := by simpa using hi
    obtain ⟨c, hc, hs⟩ := hQ a h3
    have gc : Good E w I G c.h := by rw [hc.2.1]; exact g
    have rc : RS E w I c act := r.same hc.1 hc.2.2
    have h4 := hs w I G act gc rc
    have s2 : Stp E.mono w0 I0 G0 h0 w I G c.h := by rw [hc.2.1]; exact s
    unfold wpList at h4
    unfold wpOp
    rw [ho]
    dsimp only
    have k1 : ∀ act' w', wpList E.P ops (Post E w I G c.h (thenQ N R)) [] act' w' → wpAny E.P md ops (Post E w0 I0 G0 h0 R) f (listed.setIfInBounds i true) act' w' := fun act' w' ⟨b, I', G', g', r', s', q⟩ =>
      hN b q w' I' G' act' g' r' w0 I0 G0 h0 (s2.trans s')
    have k2 : ∀ e act' w', e ≠ .normal → Post E w I G c.h (thenQ N R) e act' w' → Post E w0 I0 G0 h0 R e act' w' := fun e act' w' hne ⟨b, I', G', g', r', s', q⟩ => by
      refine ⟨b, I', G', g', r', s2.trans s', ?_⟩
      cases e <;> first | exact absurd rfl hne | exact q
    split
    · rename_i hw
      rw [if_pos hw] at h4
      rcases h4 with h4 | ⟨h5, a', w', h6⟩
      · exact .inl (upon_mono_but k1 k2 h4)
      · exact .inr ⟨h5, a', w', k2 _ _ _ (fun e => by cases e) h6⟩
    · rename_i hw
      rw [if_neg hw] at h4
      exact k1 _ _ h4
  | fuel + 1, listed, a, h => by
    intro w I G act g r w0 I0 G0 h0 s
    rw [Nat.add_right_comm]
    refine ⟨fun e => absurd e h.1, fun i hi => ?_⟩
    have h1 := h.2 i hi
    unfold LOp at h1
    unfold wpOp
    split
    · rename_i e
      rw [e] at h1
      exact LAnyD.sound ho hQ hN fuel h1 w I G act g r w0 I0 G0 h0 s
    · rename_i o e
      rw [e] at h1
      obtain ⟨hd, h1⟩ := h1
      cases hw : wantedA ops a o with
      | none => rw [hw] at h1; simp at h1
      | some b =>
        rw [hw] at h1
        cases b with
        | true =>
          rw [if_pos rfl] at h1
          rw [if_pos (r.wanted hw)]
          exact .inl (step1_wp hd h1 g r fun a' act' w' I' G' g' r' s' k => LAnyD.sound ho hQ hN fuel k w' I' G' act' g' r' w0 I0 G0 h0 (s.trans s'))
        | false =>
          rw [if_neg (by simp), if_pos rfl] at h1
          rw [if_neg (by rw [r.wanted hw]; simp)]
          have hh : (a.put o.dst (.tuple [])).h = a.h := put_h a _ _
          exact LAnyD.sound ho hQ hN fuel h1 w I G _ (by rw [hh]; exact g) (r.put hd ⟨[], rfl, rfl⟩) w0 I0 G0 h0 (by rw [hh]; exact s)
def waitsB (md : Region.Mode) (ops : Array Oper) (l : List Nat) (last : Nat) : Bool := l.all fun i => waits md ops i ops.size last
theorem LAnyD.first {L1 : Array Bool} {last : Nat} {Q : AS → Prop} (hQ : ∀ a b, AEq a b → Q a → Q b) {i : Nat} {oi : Oper} {v : PV} (hi : ops[i]? = some oi) (hw0 : waits md ops i ops.size last = true) (hq : quietOp S oi.op = true) :
    ∀ (fuel : Nat) (listed : Array Bool) (a : AS),
      (∀ j oj, ops[j]? = some oj → j ≠ i → listed.getD j true = false → waits md ops i ops.size j = false → oi.apart ops oj = true ∧ (isLoad oi.op && hxOp S oj.op) = false) →
      Closed md ops listed → i ∈ Region.ready md ops listed → LY E S ops oi v a →
      LAnyD E S md ops L1 last Q fuel (listed.setIfInBounds i true) (a.put oi.dst v) → LAnyD E S md ops L1 last Q (fuel + 1) listed a := by
  intro fuel
  induction fuel with
  | zero =>
    intro listed a _ hcl hr hy H
    refine ⟨fun h => (by rw [h] at hr; cases hr), fun j hj => ?_⟩
    by_cases hji : j = i
    · subst hji; exact hy.lop hi hq H
    · have h1 := ready_mono hj hji
      rw [H.2.1] at h1
      obtain rfl : j = last := by simpa using h1
      obtain ⟨_, oj, hoj, hall⟩ := mem_ready.1 hj
      have hi0 : listed.getD i false = false := by
        have h0 := (mem_ready.1 hr).1
        rcases Nat.lt_or_ge i listed.size with h' | h'
        · simp [h'] at h0 ⊢; exact h0
        · simp [Array.getElem?_eq_none h'] at h0
      rw [waits_no hcl hi0 _ _ _ hoj hall] at hw0
      cases hw0
  | succ fuel ih =>
    intro listed a hfree hcl hr hy H
    refine ⟨fun h => (by rw [h] at hr; cases hr), fun j hj => ?_⟩
    by_cases hji : j = i
    · subst hji; exact hy.lop hi hq H
    · have h1 := H.2 j (ready_mono hj hji)
      obtain ⟨hjun, oj, hoj, hall⟩ := mem_ready.1 hj
      have hi0 : listed.getD i false = false := by
        have h0 := (mem_ready.1 hr).1
        rcases Nat.lt_or_ge i listed.size with h' | h'
        · simp [h'] at h0 ⊢; exact h0
        · simp [Array.getElem?_eq_none h'] at h0
      have hnot : waits md ops i ops.size j = false := waits_no hcl hi0 _ _ _ hoj hall
      obtain ⟨hap, hls⟩ := hfree j oj hoj hji hjun hnot
      have h2 := LOp.past (fun _ _ e k => AEq.lanyD hQ fuel e k) hoj hap hls hy h1
      have hfree' : ∀ k ok, ops[k]? = some ok → k ≠ i → (listed.setIfInBounds j true).getD k true = false →
          waits md ops i ops.size k = false → oi.apart ops ok = true ∧ (isLoad oi.op && hxOp S ok.op) = false := fun k ok hk hki hun hno => by
        refine hfree k ok hk hki ?_ hno
        by_cases hjk : j = k
        · subst hjk; exact hjun
        · rw [getD_set_ne true hjk] at hun; exact hun
      refine LOp.mono (fun a' h3 => ih (listed.setIfInBounds j true) a' hfree' (hcl.step (ready_mono hj hji |> fun _ => hj)) (ready_mono hr (Ne.symm hji)) h3.1 ?_) h2
      rw [Array.setIfInBounds_comm _ _ hji]
      exact h3.2
def markL (l : List Nat) (listed : Array Bool) : Array Bool := l.foldl (fun L i => L.setIfInBounds i true) listed
def ordOKD (S : Specs E) (md : Region.Mode) (ops : Array Oper) (last : Nat) : List Nat → Array Bool → Bool
  | [], listed => Region.ready md ops listed == [last]
  | i :: l, listed => (Region.ready md ops listed).contains i && (ops[i]?).isSome && (freeL S md ops listed i || Region.ready md ops listed == [i]) && ordOKD S md ops last l (listed.setIfInBounds i true)
theorem wpO_anyD {last : Nat} {L1 : Array Bool} {Q : AS → Prop} (hQ : ∀ a b, AEq a b → Q a → Q b) : ∀ (l : List Nat) (listed : Array Bool) (a : AS), markL l listed = L1 → waitsB md ops l last = true → Closed md ops listed → ordOKD S md ops last l listed = true → wpO E S ops l Q a → LAnyD E S md ops L1 last Q l.length listed a
  | [], listed, a, hm, _, _, hB, h => ⟨hm, by simpa [ordOKD] using hB, h⟩
  | i :: l, listed, a, hm, hwb, hcl, hB, h => by
    simp only [ordOKD, Bool.and_eq_true] at hB
    simp only [waitsB, List.all_cons, Bool.and_eq_true] at hwb
    obtain ⟨⟨⟨hr, hi⟩, hf⟩, hB'⟩ := hB
    obtain ⟨oi, hi⟩ := Option.isSome_iff_exists.1 hi
    have hr : i ∈ Region.ready md ops listed := by simpa using hr
    simp only [wpO] at h
    rcases Bool.or_eq_true _ _ ▸ hf with hf | hf
    · obtain ⟨hq, hfree⟩ := freeL_spec hi hf
      obtain ⟨v, hy, hk⟩ := h.ly hi hq
      exact LAnyD.first hQ hi hwb.1 hq l.length listed a hfree hcl hr hy (wpO_anyD hQ l _ _ hm hwb.2 (hcl.step hr) hB' hk)
    · have hf : Region.ready md ops listed = [i] := by simpa using hf
      refine ⟨fun e => (by rw [hf] at e; cases e), fun j hj => ?_⟩
      rw [hf] at hj
      have : j = i := by simpa using hj
      subst this
      exact h.mono fun a k => wpO_anyD hQ l _ _ hm hwb.2 (hcl.step hr) hB' k
theorem Closed.marks {listed : Array Bool} (hcl : Closed md ops listed) : ∀ {l : List Nat} {last : Nat}, ordOKD S md ops last l listed = true → Closed md ops (markL l listed) ∧ Region.ready md ops (markL l listed) = [last]
  | [], last, h => ⟨hcl, by simpa [ordOKD, markL] using h⟩
  | i :: l, last, h => by
    simp only [ordOKD, Bool.and_eq_true] at h
    have hr : i ∈ Region.ready md ops listed := by simpa using h.1.1.1
    exact Closed.marks (hcl.step hr) h.2
def chainB (S : Specs E) (md : Region.Mode) (ops : Array Oper) : List (List Nat × Nat) → List Nat → Array Bool → Bool
  | [], l, listed => ordOK S md ops l listed
  | (l, last) :: segs, lf, listed => waitsB md ops l last && (ops[last]?).isSome && ordOKD S md ops last l listed && chainB S md ops segs lf ((markL l listed).setIfInBounds last true)
def wpChain (E : Env) (S : Specs E) (ops : Array Oper) (Q : Exit → AS → Prop) : List (List Nat × Nat) → List Nat → AS → Prop
  | [], l, a => wpO E S ops l (Q .normal) a
  | (l, last) :: segs, lf, a => wpO E S ops l (SWO E ops (ops[last]?).toList (thenQ (wpChain E S ops Q segs lf) Q)) a
def chainN : List (List Nat × Nat) → List Nat → Nat
  | [], l => l.length
  | (l, _) :: segs, lf => l.length + (chainN segs lf + 1)
theorem wpChain_ok {Q : Exit → AS → Prop} : ∀ (segs : List (List Nat × Nat)) (lf : List Nat) (listed : Array Bool) (a : AS), Closed md ops listed → chainB S md ops segs lf listed = true → wpChain E S ops Q segs lf a → RestOK E md ops Q (chainN segs lf) listed a
  | [], lf, listed, a, hcl, hB, h => by
    intro w I G act g r w0 I0 G0 h0 s
    have h1 : wpO E S ops lf (fun b => ∃ c, AEq c b ∧ Q .normal c) a := wpO.mono (fun c k => ⟨c, .refl c, k⟩) _ h
    have h2 := wpO_any (md := md) (fun a b e ⟨c, hc, k⟩ => ⟨c, hc.trans e, k⟩) _ _ _ hcl hB h1
    have h3 := LAny.sound _ h2 g r s
    refine wpAny_mono_post ?_ _ _ _ _ h3
    rintro e act' w' ⟨b, I', G', gb, rb, sb, rfl, c, hc, k⟩
    exact ⟨c, I', G', by rw [hc.2.1]; exact gb, rb.same hc.1 hc.2.2, by rw [hc.2.1]; exact sb, k⟩
  | (l, last) :: segs, lf, listed, a, hcl, hB, h => by
    simp only [chainB, Bool.and_eq_true] at hB
    obtain ⟨⟨⟨b1, b2⟩, b3⟩, b4⟩ := hB
    obtain ⟨o, ho⟩ := Option.isSome_iff_exists.1 b2
    simp only [wpChain, ho, Option.toList_some] at h
    have h1 : wpO E S ops l (fun b => ∃ c, AEq c b ∧ SWO E ops [o] (thenQ (wpChain E S ops Q segs lf) Q) c) a := wpO.mono (fun c k => ⟨c, .refl c, k⟩) _ h
    have h2 := wpO_anyD (md := md) (last := last) (fun a b e ⟨c, hc, k⟩ => ⟨c, hc.trans e, k⟩) l listed a rfl b1 hcl b3 h1
    obtain ⟨hc2, hr2⟩ := hcl.marks b3
    have hcl2 : Closed md ops ((markL l listed).setIfInBounds last true) := hc2.step (by rw [hr2]; simp)
    exact LAnyD.sound ho (fun a h => h) (fun b hb => wpChain_ok segs lf _ b hcl2 b4 hb) l.length h2
end
end Go.Proofs.YtpgnfbdkhakbdaaGreatDoor.Lift

namespace Go.Proofs.YtpgnfbdkhakbdaaGreatDoor.Lift
open Go

inductive Sh where
  | int (k : IntKind) | bool | str | slice (s : Sh) | struct (r : Sh) | fnil | fcons (s r : Sh)
def Sh.width : Sh → Nat
  | .int _ | .bool | .str | .slice _ => 1
  | .struct r => r.width
  | .fnil => 0
  | .fcons s r => s.width + r.width
mutual
def HasSh (P : Program) : Sh → TypeId → Prop
  | .int k, t => P.underlying t = some (.int k)
  | .bool, t => P.underlying t = some .bool
  | .str, t => P.underlying t = some .string
  | .slice s, t => ∃ e, P.underlying t = some (.slice e) ∧ P.cellsOf e = s.width ∧ 0 < s.width ∧ HasSh P s e
  | .struct r, t => ∃ fs, P.underlying t = some (.struct fs) ∧ P.cellsOf t = r.width ∧ HasF P r fs.toList 0
  | .fnil, _ => False
  | .fcons _ _, _ => False
def HasF (P : Program) : Sh → List Field → Nat → Prop
  | .fnil, [], _ => True
  | .fcons s r, f :: fs, off => f.offset = off ∧ P.cellsOf f.type = s.width ∧ HasSh P s f.type ∧ HasF P r fs (off + s.width)
  | _, _, _ => False
end
def VSh : Sh → List PV → Prop
  | .int k, cs => ∃ n, cs = [.int k n] ∧ (Lit.int k n).wf = true
  | .bool, cs => ∃ b, cs = [.bool b]
  | .str, cs => ∃ l, cs = [.str l] ∧ l.length ≤ maxLen
  | .slice s, cs => ∃ xs, cs = [.list s.width xs] ∧ xs.length ≤ maxLen ∧ ∀ x ∈ xs, VSh s x
  | .struct r, cs => VSh r cs
  | .fnil, cs => cs = []
  | .fcons s r, cs => ∃ a b, cs = a ++ b ∧ VSh s a ∧ VSh r b
section
variable {H : Type} {enc : TypeId × Value → H} {P : Program} {w : World} {sp : Nat → Bool} {held : Bool}
theorem RE_each {I : Nat → Prop} {sz : Nat} : ∀ (us : List (List Value)) (V : List PV → Prop), (∀ u ∈ us, u.length = sz ∧ ∃ pv, RL w I pv u ∧ V pv) → ∃ xs : List (List PV), RE w I sz xs us.flatten ∧ xs.length = us.length ∧ ∀ x ∈ xs, V x
  | [], V, _ => ⟨[], rfl, rfl, fun x hx => nomatch hx⟩
  | u :: us, V, h => by
    obtain ⟨xs, h1, h2, h3⟩ := RE_each us V (fun y hy => h y (List.mem_cons_of_mem _ hy))
    obtain ⟨hl, pv, hp, hv⟩ := h u (List.mem_cons_self ..)
    refine ⟨pv :: xs, ⟨u, us.flatten, rfl, hl, hp, h1⟩, by simp [h2], fun x hx => ?_⟩
    rcases List.mem_cons.1 hx with rfl | hx
    · exact hv
    · exact h3 x hx
theorem flat_at {α : Type} {sz : Nat} (hsz : 0 < sz) : ∀ (us : List (List α)), (∀ u ∈ us, u.length = sz) → ∀ (j : Nat) (x : α), us.flatten[j]? = some x → ∃ u, us[j / sz]? = some u ∧ u[j % sz]? = some x
  | [], _, j, x, h => by simp at h
  | u :: us, hl, j, x, h => by
    have hu := hl u (List.mem_cons_self ..)
    rw [List.flatten_cons] at h
    by_cases hj : j < sz
    · rw [List.getElem?_append_left (by omega)] at h
      rw [Nat.div_eq_of_lt hj, Nat.mod_eq_of_lt hj]
      exact ⟨u, rfl, h⟩
    · rw [List.getElem?_append_right (by omega), hu] at h
      obtain ⟨v, h1, h2⟩ := flat_at hsz us (fun y hy => hl y (List.mem_cons_of_mem _ hy)) (j - sz) x h
      have e1 : j / sz = (j - sz) / sz + 1 := by
        have : j = (j - sz) + sz := by omega
        conv => lhs; rw [this]
        rw [Nat.add_div_right _ hsz]
      have e2 : j % sz = (j - sz) % sz := by
        have : j = (j - sz) + sz := by omega
        conv => lhs; rw [this]
        rw [Nat.add_mod_right]
      rw [e1, e2]
      exact ⟨v, h1, h2⟩
theorem open_both : ∀ (s : Sh),
    (∀ t fuel cs x, HasSh P s t → DataW.trod enc P w 0 sp held fuel t cs = some x → ∃ pvs, RL w (fun b => b < w.heap.size) pvs cs ∧ VSh s pvs) ∧
    (∀ fs off n (cs : List Value), HasF P s fs off → (∀ (i : Nat) (f : Field), fs[i]? = some f → ∃ y, DataW.trod enc P w 0 sp held n f.type ((cs.drop f.offset).take (P.cellsOf f.type)) = some y) → cs.length = off + s.width → ∃ pvs, RL w (fun b => b < w.heap.size) pvs (cs.drop off) ∧ VSh s pvs)
  | .int k => ⟨fun t fuel cs x ht h => by
      obtain ⟨n, rfl, _, hw⟩ := DataW.trod_int ht h
      exact ⟨[.int k n], ⟨_, _, rfl, rfl, rfl⟩, n, rfl, hw⟩, fun fs off n cs h => by cases fs <;> exact h.elim⟩
  | .bool => ⟨fun t fuel cs x ht h => by
      obtain ⟨n, rfl, _⟩ := DataW.trod_bool ht h
      exact ⟨[.bool n], ⟨_, _, rfl, rfl, rfl⟩, n, rfl⟩, fun fs off n cs h => by cases fs <;> exact h.elim⟩
  | .str => ⟨fun t fuel cs x ht h => by
      obtain ⟨n, rfl, _, hm⟩ := DataW.trod_string ht h
      exact ⟨[.str n.data.toList], ⟨_, _, rfl, rfl, rfl⟩, n.data.toList, rfl, by rw [Array.length_toList]; exact hm⟩, fun fs off n cs h => by cases fs <;> exact h.elim⟩
  | .slice s => ⟨fun t fuel cs x ht h => by
      obtain ⟨e, he, hc, hpos, hs⟩ := ht
      rcases DataW.trod_slice he h with ⟨rfl, _⟩ | ⟨a, len, cap, elems, rest, n, _, rfl, rfl, _, hl, hm, hlen, hel, _, _⟩
      · refine ⟨[.list s.width []], ⟨_, _, rfl, ?_, rfl⟩, [], rfl, Nat.zero_le _, fun x hx => nomatch hx⟩
        simp only [R1]
        exact ⟨none, 0, [], rfl, Nat.le_refl _, by simp [maxLen], by simp [RE], fun h => absurd rfl h⟩
      · -- the cells of each element
        have each : ∀ i, i < len → ∃ u : List Value, u.length = s.width ∧ (∀ j v, u[j]? = some v → w.cell? (a.add (i * s.width + j)) = some v) ∧ ∃ pv, RL w (fun b => b < w.heap.size) pv u ∧ VSh s pv := fun i hi => by
          have h1 := hel i hi
          rw [List.getElem?_eq_getElem (by omega), Option.bind_eq_some_iff, hc] at h1
          obtain ⟨u, hu, hy⟩ := h1
          obtain ⟨_, hul, hcell⟩ := World.cells?_some hu
          refine ⟨u, hul, fun j v hj => ?_, (open_both s).1 e n u _ hs hy⟩
          have hjl := (List.getElem?_eq_some_iff.1 hj).1
          have := hcell j (by omega)
          rw [Addr.add_add] at this
          rw [this]
          rw [List.getElem?_eq_getElem hjl] at hj
          injection hj with hj
          subst hj
          simp [hjl]
        obtain ⟨f, hf⟩ : ∃ f : Nat → List Value, ∀ i, i < len → (f i).length = s.width ∧ (∀ j v, (f i)[j]? = some v → w.cell? (a.add (i * s.width + j)) = some v) ∧ ∃ pv, RL w (fun b => b < w.heap.size) pv (f i) ∧ VSh s pv :=
          ⟨fun i => if h : i < len then (each i h).choose else [], fun i hi => by simp only [hi, dif_pos]; exact (each i hi).choose_spec⟩
        obtain ⟨us, hus⟩ : ∃ us, us = (List.range len).map f := ⟨_, rfl⟩
        have hul : us.length = len := by rw [hus]; simp
        have hum : ∀ u ∈ us, u.length = s.width ∧ ∃ pv, RL w (fun b => b < w.heap.size) pv u ∧ VSh s pv := fun u hu => by
          rw [hus] at hu
          obtain ⟨i, hi, rfl⟩ := List.mem_map.1 hu
          obtain ⟨k1, _, k3⟩ := hf i (List.mem_range.1 hi)
          exact ⟨k1, k3⟩
        obtain ⟨xs, hre, hxl, hxv⟩ := RE_each us (VSh s) hum
        have hxl2 : xs.length = len := hxl.trans hul
        refine ⟨[.list s.width xs], ⟨_, _, rfl, ?_, rfl⟩, xs, rfl, by omega, hxv⟩
        simp only [R1]
        refine ⟨some a, cap, us.flatten, by rw [hxl2], by omega, hm, hre, fun hne => ?_⟩
        have cell : ∀ j v, us.flatten[j]? = some v → w.cell? (a.add j) = some v := fun j v hj => by
          obtain ⟨u, h1, h2⟩ := flat_at hpos us (fun u hu => (hum u hu).1) j v hj
          rw [hus, List.getElem?_map] at h1
          have hlt : j / s.width < len := by
            rcases Nat.lt_or_ge (j / s.width) len with k | k
            · exact k
            · rw [List.getElem?_eq_none (by rw [List.length_range]; exact k)] at h1; cases h1
          rw [List.getElem?_range hlt] at h1
          injection h1 with h1
          have := (hf _ hlt).2.1 (j % s.width) v (by rw [h1]; exact h2)
          rwa [Nat.mul_comm, Nat.div_add_mod] at this
        refine ⟨a, rfl, ?_, cell⟩
        obtain ⟨v, l, hv⟩ := List.exists_cons_of_ne_nil hne
        have := cell 0 v (by rw [hv]; rfl)
        have hb := block_lt this
        rwa [add_block] at hb, fun fs off n cs h => by cases fs <;> exact h.elim⟩
  | .struct r => ⟨fun t fuel cs x ht h => by
      obtain ⟨fs, he, hc, hF⟩ := ht
      obtain ⟨xs, m, _, _, hl, hxl, hall⟩ := DataW.trod_struct he h
      have := (open_both r).2 fs.toList 0 m cs hF (fun i f hf => by
        have hf2 : fs[i]? = some f := by simpa using hf
        have h1 := hall i f hf2
        have hi : i < xs.length := by rw [hxl]; exact (Array.getElem?_eq_some_iff.1 hf2).1
        rw [List.getElem?_eq_getElem hi] at h1
        exact ⟨_, h1⟩) (by rw [hl, hc, Nat.zero_add])
      exact this, fun fs off n cs h => by cases fs <;> exact h.elim⟩
  | .fnil => ⟨fun t fuel cs x ht h => ht.elim, fun fs off n cs h _ hl => by
      refine ⟨[], ?_, rfl⟩
      rw [List.drop_of_length_le (by rw [hl]; exact Nat.le_refl _)]
      rfl⟩
  | .fcons s r => ⟨fun t fuel cs x ht h => ht.elim, fun fs off n cs h ha hl => by
      cases fs with
      | nil => exact h.elim
      | cons f fs =>
        obtain ⟨rfl, hc, hs, hF⟩ := h
        obtain ⟨y, hy⟩ := ha 0 f rfl
        rw [hc] at hy
        obtain ⟨p1, r1, v1⟩ := (open_both s).1 _ _ _ _ hs hy
        have hw : cs.length = f.offset + s.width + r.width := by rw [hl]; show f.offset + (s.width + r.width) = _; omega
        obtain ⟨p2, r2, v2⟩ := (open_both r).2 fs (f.offset + s.width) n cs hF (fun i g hg => ha (i + 1) g hg) hw
        refine ⟨p1 ++ p2, ?_, p1, p2, rfl, v1, v2⟩
        have e : cs.drop f.offset = (cs.drop f.offset).take s.width ++ cs.drop (f.offset + s.width) := by
          rw [← List.drop_drop, List.take_append_drop]
        rw [e]
        exact r1.append r2⟩
theorem one_cell {v u : Value} (hna : ∀ cs, v ≠ .agg cs) (h : v.cells.toList = [u]) : v = u := by
  cases v with
  | agg cs => exact absurd rfl (hna cs)
  | _ => simpa [Value.cells] using h
theorem open_sh {s : Sh} {t : TypeId} {v : Value} {d : DataW H} {ps : List MemPlace} {r : Reach} {b0 : Nat} (hs : HasSh P s t) (hv : Value.okWide P w r b0 t v) (hd : DataW.Trod enc P w 0 sp held t v d ps) :
    ∃ pvs, VSh s pvs ∧ R0 w (fun b => b < w.heap.size) (match s with | .struct _ => .agg pvs | _ => pvs.getD 0 .any) v := by
  obtain ⟨fuel, hf⟩ := hd
  obtain ⟨pvs, h1, h2⟩ := (open_both s).1 t fuel _ _ hs hf
  refine ⟨pvs, h2, ?_⟩
  cases s with
  | struct r =>
    obtain ⟨fs, he, _⟩ := hs
    obtain ⟨xs, rfl⟩ : ∃ xs, v = .agg xs := by
      simp only [Value.okWide, he] at hv
      obtain ⟨cs, h1, _⟩ := hv
      exact ⟨cs, h1⟩
    exact ⟨xs.toList, by simp, h1⟩
  | fnil => exact hs.elim
  | fcons s r => exact hs.elim
  | int k =>
    have hna : ∀ cs, v ≠ .agg cs := fun cs e => by subst e; have hs : P.underlying t = _ := hs; simp [Value.okWide, hs, Cell.okWide, Cell.ok] at hv
    obtain ⟨n, rfl, _⟩ := h2
    obtain ⟨u, us', e, r1, r2⟩ := h1
    have r2 : us' = [] := r2
    subst r2
    rw [one_cell hna e]
    exact R0_of_R1 r1
  | bool =>
    have hna : ∀ cs, v ≠ .agg cs := fun cs e => by subst e; have hs : P.underlying t = _ := hs; simp [Value.okWide, hs, Cell.okWide, Cell.ok] at hv
    obtain ⟨n, rfl⟩ := h2
    obtain ⟨u, us', e, r1, r2⟩ := h1
    have r2 : us' = [] := r2
    subst r2
    rw [one_cell hna e]
    exact R0_of_R1 r1
  | str =>
    have hna : ∀ cs, v ≠ .agg cs := fun cs e => by subst e; have hs : P.underlying t = _ := hs; simp [Value.okWide, hs, Cell.okWide, Cell.ok] at hv
    obtain ⟨n, rfl, _⟩ := h2
    obtain ⟨u, us', e, r1, r2⟩ := h1
    have r2 : us' = [] := r2
    subst r2
    rw [one_cell hna e]
    exact R0_of_R1 r1
  | slice s =>
    have hna : ∀ cs, v ≠ .agg cs := fun cs e => by subst e; obtain ⟨_, hs, _⟩ := hs; simp [Value.okWide, hs, Cell.okWide, Cell.ok] at hv
    obtain ⟨n, rfl, _⟩ := h2
    obtain ⟨u, us', e, r1, r2⟩ := h1
    have r2 : us' = [] := r2
    subst r2
    rw [one_cell hna e]
    exact R0_of_R1 r1
end
mutual
def hasShB (P : Program) : Sh → TypeId → Bool
  | .int k, t => match P.underlying t with | some (.int k') => decide (k' = k) | _ => false
  | .bool, t => match P.underlying t with | some .bool => true | _ => false
  | .str, t => match P.underlying t with | some .string => true | _ => false
  | .slice s, t => match P.underlying t with | some (.slice e) => P.cellsOf e == s.width && decide (0 < s.width) && hasShB P s e | _ => false
  | .struct r, t => match P.underlying t with | some (.struct fs) => P.cellsOf t == r.width && hasFB P r fs.toList 0 | _ => false
  | .fnil, _ => false
  | .fcons _ _, _ => false
def hasFB (P : Program) : Sh → List Field → Nat → Bool
  | .fnil, [], _ => true
  | .fcons s r, f :: fs, off => f.offset == off && P.cellsOf f.type == s.width && hasShB P s f.type && hasFB P r fs (off + s.width)
  | _, _, _ => false
end
theorem hasB_both {P : Program} (s : Sh) :
    (∀ t, hasShB P s t = true → HasSh P s t) ∧ (∀ fs off, hasFB P s fs off = true → HasF P s fs off) := by
  induction s with
  | int k =>
    refine ⟨fun t h => ?_, fun fs off h => ?_⟩
    · unfold hasShB at h
      split at h
      · rename_i k' e; rw [of_decide_eq_true h] at e; exact e
      · cases h
    · cases fs <;> simp [hasFB] at h
  | bool =>
    refine ⟨fun t h => ?_, fun fs off h => ?_⟩
    · unfold hasShB at h
      split at h
      · rename_i e; exact e
      · cases h
    · cases fs <;> simp [hasFB] at h
  | str =>
    refine ⟨fun t h => ?_, fun fs off h => ?_⟩
    · unfold hasShB at h
      split at h
      · rename_i e; exact e
      · cases h
    · cases fs <;> simp [hasFB] at h
  | slice s ih =>
    refine ⟨fun t h => ?_, fun fs off h => ?_⟩
    · unfold hasShB at h
      split at h
      · rename_i e he
        simp only [Bool.and_eq_true, beq_iff_eq, decide_eq_true_eq] at h
        exact ⟨e, he, h.1.1, h.1.2, ih.1 e h.2⟩
      · cases h
    · cases fs <;> simp [hasFB] at h
  | struct r ih =>
    refine ⟨fun t h => ?_, fun fs off h => ?_⟩
    · unfold hasShB at h
      split at h
      · rename_i fs he
        simp only [Bool.and_eq_true, beq_iff_eq] at h
        exact ⟨fs, he, h.1, ih.2 _ _ h.2⟩
      · cases h
    · cases fs <;> simp [hasFB] at h
  | fnil =>
    refine ⟨fun t h => ?_, fun fs off h => ?_⟩
    · simp [hasShB] at h
    · cases fs with
      | nil => trivial
      | cons f fs => simp [hasFB] at h
  | fcons s r ihs ihr =>
    refine ⟨fun t h => ?_, fun fs off h => ?_⟩
    · simp [hasShB] at h
    · cases fs with
      | nil => simp [hasFB] at h
      | cons f fs =>
        unfold hasFB at h
        simp only [Bool.and_eq_true, beq_iff_eq] at h
        exact ⟨h.1.1.1, h.1.1.2, ihs.1 _ h.1.2, ihr.2 _ _ h.2⟩
theorem hasSh_of {P : Program} {s : Sh} {t : TypeId} (h : hasShB P s t = true) : HasSh P s t := (hasB_both s).1 t h
end Go.Proofs.YtpgnfbdkhakbdaaGreatDoor.Lift
