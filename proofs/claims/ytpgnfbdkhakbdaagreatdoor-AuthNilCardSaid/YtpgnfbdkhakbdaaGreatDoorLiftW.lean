/- What holds without package variables holds with them. -/
import Derived.Test.YtpgnfbdkhakbdaaGreatDoorLiftQ
import Derived.OpenShut
import Derived.FnData
import Derived.Laws.FloatArith
import Derived.MapKept
import Derived.WideKeyRuns
set_option linter.unusedSimpArgs false
set_option linter.unusedVariables false
namespace Go.Proofs.YtpgnfbdkhakbdaaGreatDoor.Lift
open Go Go.RowKit
variable {E : Env}

def Env.glob (E : Env) (l : List (Nat × List PV)) : Env := { E with gl := l }
variable {w w' : World} {I I' : Nat → Prop} {G G' : Nat → Option Nat} {h h' : Heap} {l : List (Nat × List PV)}
theorem Good.less (hgl : E.gl = []) (g : Good (E.glob l) w I G h) : Good E w I G h := ⟨g.own, g.hid, g.imm, (fun _ _ e => by rw [hgl] at e; cases e), g.inv⟩
theorem Good.more (g : Good (E.glob l) w I G h) (g' : Good E w' I' G' h') (s : Stp E.mono w I G h w' I' G' h') : Good (E.glob l) w' I' G' h' := ⟨g'.own, g'.hid, g'.imm, fun g0 cs e => R1.keeps (Stp.keeps (E := E.glob l) s g) _ _ (g.glob g0 cs e), E.keepW _ _ _ _ (Stp.keeps (E := E.glob l) s g) g.inv⟩
theorem SCalls.glob {f : FuncId} {args : List PV} {Q : SEnd → Heap → Prop} (hc : SCalls E f args h Q) (hgl : E.gl = []) (l : List (Nat × List PV)) : SCalls (E.glob l) f args h Q :=
  ⟨hc.1, fun w I G vs g r => (hc.2 w I G vs (g.less hgl) r).mono fun _ _ ⟨I', G', h', g', s, q⟩ => ⟨I', G', h', g.more g' s, s, q⟩⟩
theorem XCalls.glob {f : FuncId} {args : List PV} {v : PV} (hc : XCalls E f args h v) (hgl : E.gl = []) (l : List (Nat × List PV)) : XCalls (E.glob l) f args h v :=
  fun w I G vs g r => hc w I G vs (g.less hgl) r
theorem FCalls.glob {f : FuncId} {args : List PV} {v : PV} (hc : FCalls E f args h v) (hgl : E.gl = []) (l : List (Nat × List PV)) : FCalls (E.glob l) f args h v := by
  exact hc.imp (fun c => c.glob hgl l) (fun c => c.glob hgl l)
def SpecE.up (s : SpecE E) (hgl : E.gl = []) (l : List (Nat × List PV)) : SpecE (E.glob l) := ⟨s.f, s.s, fun args h hc => (s.ok args h hc).glob hgl l⟩
theorem SCalls.ofRead {f : FuncId} {fn : Func} {c : Code} (hf : E.P.funcs[f]? = some fn) (hb : fn.body = some c) (hn : (fn.name == "runtime.NumGoroutine") = false) {args : List PV} {v : PV}
    (k : ∀ w I G vs, Good E w I G h → R0s w I args vs → ∃ u, R w I v u ∧ Calls E.P f vs.toArray w fun e w' => e = .returned u ∧ w' = w) : SCalls E f args h (Ret v h) :=
  ⟨⟨fn, c, hf, hb, hn⟩, fun w I G vs g r => by
    obtain ⟨u, hu, hc⟩ := k w I G vs g r
    refine hc.mono ?_
    rintro e w' ⟨rfl, rfl⟩
    exact ⟨I, G, h, g, .refl .., v, hu, rfl, rfl⟩⟩
theorem SCalls.belowG {f : FuncId} {args : List PV} {v : Value} {p : PV} (hc : SCalls E f args noHeap (Ret p noHeap)) (hp : ∀ w I u, R w I p u → u = v) (w : World) (I : Nat → Prop) (hI : ∀ k, I k → k < w.heap.size)
    (hgl : ∀ g cs, look E.gl g = some cs → R1 w I (.elem cs) (.pointer (some ⟨g, 0, none⟩))) (vs : List Value) (hr : R0s w I args vs) (hwi : E.winv w I) :
    Calls E.P f vs.toArray w (fun e w' => e = .returned v ∧ Below w.heap.size w w') := by
  have g : Good E w I (fun _ => none) noHeap := Good.mk (fun r o h => nomatch h) (fun k r h => nomatch h) hI hgl hwi
  refine (hc.2 w I (fun _ => none) vs g hr).mono ?_
  rintro e w' ⟨I', G', h', g', s, q⟩
  cases e with
  | returned u =>
    obtain ⟨p', hp', q1, q2⟩ := q
    injection q1 with q1
    subst q1
    exact ⟨by rw [hp _ _ _ hp'], ⟨s.os, s.tape, s.output, s.size, fun k hk => (s.keep k hk rfl rfl).1⟩⟩
  | panicked c => obtain ⟨q1, _⟩ := q; cases q1
  | outgrown => exact q.elim
end Go.Proofs.YtpgnfbdkhakbdaaGreatDoor.Lift

namespace Go.Proofs.YtpgnfbdkhakbdaaGreatDoor.Lift
open Go Go.RowKit
variable {E : Env} {w w' : World} {I : Nat → Prop} {G : Nat → Option Nat} {h : Heap}

theorem Good.below (g : Good E w I G h) (b : Below w.heap.size w w') (hm : E.mono = false) : Good E w' I G h ∧ Stp E.mono w I G h w' I G h := by
  have hk : Keeps w I w' I := fun k hk => ⟨hk, b.block k (g.imm k hk)⟩
  refine ⟨⟨fun r o e => ?_, fun k r e => ?_, fun k e => Nat.lt_of_lt_of_le (g.imm k e) b.size, fun g0 cs e => R1.keeps hk _ _ (g.glob g0 cs e), E.keepW _ _ _ _ hk g.inv⟩, ⟨b.os, b.tape, b.output, b.size, fun k hk a c => ⟨b.block k hk, a, c⟩, fun _ h => h, fun _ _ _ _ h => h, fun e => by rw [hm] at e; cases e⟩⟩
  · obtain ⟨k1, k2, k3, k4⟩ := g.own r o e
    exact ⟨Nat.lt_of_lt_of_le k1 b.size, k2, k3, k4.keeps hk (b.block r k1) fun k hG => ⟨hG, b.block k (g.hid k r hG).1⟩⟩
  · obtain ⟨k1, k2, k3, k4⟩ := g.hid k r e
    exact ⟨Nat.lt_of_lt_of_le k1 b.size, k2, k3, k4⟩
theorem SCalls.ofBelow {f : FuncId} {fn : Func} {c : Code} (hf : E.P.funcs[f]? = some fn) (hb : fn.body = some c) (hn : (fn.name == "runtime.NumGoroutine") = false) {args : List PV} {v : PV}
    (k : ∀ w I G vs, Good E w I G h → R0s w I args vs → ∃ u, (∀ w', R w' I v u) ∧ Calls E.P f vs.toArray w fun e w' => e = .returned u ∧ Below w.heap.size w w') (hm : E.mono = false := by rfl) : SCalls E f args h (Ret v h) :=
  ⟨⟨fn, c, hf, hb, hn⟩, fun w I G vs g r => by
    obtain ⟨u, hu, hc⟩ := k w I G vs g r
    refine hc.mono ?_
    rintro e w' ⟨rfl, b⟩
    obtain ⟨g', s⟩ := g.below b hm
    exact ⟨I, G, h, g', s, v, hu w', rfl, rfl⟩⟩
end Go.Proofs.YtpgnfbdkhakbdaaGreatDoor.Lift

namespace Go.Proofs.YtpgnfbdkhakbdaaGreatDoor.Lift
open Go Go.RowKit
variable {E : Env}

theorem SWO.enter {ops : Array Oper} {l1 : List Oper} {Q : Exit → AS → Prop} {a : AS} {n : Nat} {l : List (Nat × PV)} {H : Heap} (m : Meet E n l H a) (k : SWO E ops l1 Q ⟨n, l, H⟩) : SWO E ops l1 Q a := by
  obtain ⟨hn, ht, hs⟩ := m
  intro w I G act g r
  obtain ⟨I', G', g', s⟩ := ht w I G g
  have r1 := r.keeps (s.keeps g)
  refine SWO.on k s g' ⟨r1.defers, r1.size.trans hn, fun t => ?_⟩
  show R w I' ((look l t).getD .any) _
  cases e : look l t with
  | none => exact trivial
  | some v =>
    have := hasAll_look hs e
    rw [Option.getD_some, ← this]
    exact r1.slot t
end Go.Proofs.YtpgnfbdkhakbdaaGreatDoor.Lift

namespace Go.Proofs.YtpgnfbdkhakbdaaGreatDoor.Lift
open Go Go.RowKit

section
variable {E : Env} {S : Specs E} {w w1 w' : World} {I I1 I' : Nat → Prop} {G G1 G' : Nat → Option Nat} {h : Heap} {ops : Array Oper} {md : Region.Mode}

theorem LOp.pastP {j : Nat} {oi oj : Oper} {v : PV} {a : AS} {K : AS → Prop} (hK : ∀ a b, AEq a b → K a → K b) (hj : ops[j]? = some oj) (hap : oi.apart ops oj = true) {P : AS → Prop} (hP : ∀ u h', P { a.put oj.dst u with h := h' }) (hls : (isLoad oi.op && hxOp S oj.op) = false ∨ px E S (a.eval E) (hx E S (a.eval E) a.h oj.op).2.2 oi.op = px E S (a.eval E) a.h oi.op)
    (hy : LY E S ops oi v a) (hs : LOp E S ops j K (a.put oi.dst v)) : LOp E S ops j (fun a' => (LY E S ops oi v a' ∧ P a') ∧ K (a'.put oi.dst v)) a := by
  have hP' : ∀ u, P (a.put oj.dst u) := fun u => by
    have := hP u a.h
    have e : ({ a.put oj.dst u with h := a.h } : AS) = a.put oj.dst u := by cases oj.dst <;> rfl
    rw [e] at this
    exact this
  obtain ⟨h1, h2, h3⟩ := Oper.apart_spec hap
  have hn : ∀ (d : Option Tmp) (v : PV), (a.put d v).n = a.n := fun d v => by cases d <;> rfl
  have keep : ∀ (u : PV) (h' : Heap), ((px E S (a.eval E) a.h oi.op).1 → px E S (a.eval E) h' oi.op = px E S (a.eval E) a.h oi.op) → LY E S ops oi v { a.put oj.dst u with h := h' } := fun u h' hh => by
    refine ⟨(congrArg (fun n => okDst n oi.dst) (hn oj.dst u)).trans hy.1, ?_⟩
    have hw : wantedA ops { a.put oj.dst u with h := h' } oi = wantedA ops a oi := (wanted_putA (v := u) h3 : wantedA ops (a.put oj.dst u) oi = wantedA ops a oi)
    have hp : px E S (AS.eval E { a.put oj.dst u with h := h' }) h' oi.op = px E S (a.eval E) h' oi.op := by
      have : AS.eval E { a.put oj.dst u with h := h' } = (a.put oj.dst u).eval E := by funext x; cases x <;> rfl
      rw [this]
      exact px_put h3
    rw [hw]
    show (_ ∧ (px E S (AS.eval E { a.put oj.dst u with h := h' }) h' oi.op).1 ∧ v = (px E S (AS.eval E { a.put oj.dst u with h := h' }) h' oi.op).2) ∨ _
    rw [hp]
    rcases hy.2 with ⟨hw, hp, rfl⟩ | ⟨hw, rfl⟩
    · rw [hh hp]; exact .inl ⟨hw, hp, rfl⟩
    · exact .inr ⟨hw, rfl⟩
  have same : ∀ (u : PV), LY E S ops oi v (a.put oj.dst u) := fun u => by
    have := keep u a.h (fun _ => rfl)
    have e : ({ a.put oj.dst u with h := a.h } : AS) = a.put oj.dst u := by cases oj.dst <;> rfl
    rw [e] at this
    exact this
  have swap : ∀ (u : PV) (h' : Heap), K { (a.put oi.dst v).put oj.dst u with h := h' } → K ({ a.put oj.dst u with h := h' }.put oi.dst v) := fun u h' k => by
    have e : ({ a.put oj.dst u with h := h' } : AS).put oi.dst v = { (a.put oj.dst u).put oi.dst v with h := h' } := by cases oi.dst <;> rfl
    rw [e]
    exact hK _ _ ((put_comm a v u h2).heap h') k
  have swap' : ∀ (u : PV), K ((a.put oi.dst v).put oj.dst u) → K ((a.put oj.dst u).put oi.dst v) := fun u k => hK _ _ (put_comm a v u h2) k
  have heval : ∀ x ∈ oj.op.operands, (a.put oi.dst v).eval E x = a.eval E x := fun x hx => eval_put fun t e e2 => h1 t e (by subst e2; exact List.mem_append_left _ (List.mem_filterMap.2 ⟨.tmp t, by simpa using hx, rfl⟩))
  have hah : (a.put oi.dst v).h = a.h := put_h a _ _
  unfold LOp at hs ⊢
  simp only [hj] at hs ⊢
  rw [hn oi.dst v, wanted_putA (v := v) h1] at hs
  refine ⟨hs.1, ?_⟩
  have hs := hs.2
  cases hw : wantedA ops a oj with
  | none => rw [hw] at hs; simp at hs
  | some b =>
    rw [hw] at hs
    cases b with
    | false =>
      rw [if_neg (by simp), if_pos rfl] at hs ⊢
      exact ⟨⟨same _, hP' _⟩, swap' _ hs⟩
    | true =>
      rw [if_pos rfl] at hs ⊢
      cases hq : quietOp S oj.op with
      | true =>
        rw [step1_quiet hq] at hs ⊢
        rw [hah, px_put h1] at hs
        exact ⟨hs.1, ⟨same _, hP' _⟩, swap' _ hs.2⟩
      | false =>
        unfold Lift.step1 at hs ⊢
        split at hs
        · rename_i t hop
          rw [hah] at hs
          exact ⟨hs.1, fun r hr => ⟨⟨keep _ _ fun hp => px_fresh hr hp, hP _ _⟩, swap _ _ (hs.2 r hr)⟩⟩
        · rename_i t x hop
          rw [heval x (by rw [hop]; simp [Op.operands]), hah] at hs
          exact ⟨hs.1, fun r hr => ⟨⟨keep _ _ fun hp => px_fresh hr hp, hP _ _⟩, swap _ _ (hs.2 r hr)⟩⟩
        · rename_i n1 n2
          by_cases hoc : isOwnCall S oj.op = true
          · rw [if_pos hoc] at hs ⊢
            have hos : ownSpec S ((a.put oi.dst v).eval E) oj.op = ownSpec S (a.eval E) oj.op := ownSpec_congr heval
            rw [hah, hos] at hs
            refine ⟨hs.1, fun u h' ow => ⟨⟨keep _ _ fun hp => ?_, hP _ _⟩, swap _ _ (hs.2 u h' ow)⟩⟩
            rcases ow.shape with rfl | ⟨r, X, hr, rfl⟩
            · rfl
            · exact px_fresh hr hp
          rw [if_neg hoc] at hs ⊢
          have hxo : hxOp S oj.op = true := by
            unfold quietOp at hq
            split at hq
            · rename_i t hop; exact absurd hop (n1 t)
            · rename_i t x hop; exact absurd hop (n2 t x)
            · simp only [Bool.not_eq_false', Bool.or_eq_true] at hq
              exact hq.resolve_left hoc
          rw [if_pos hxo] at hs ⊢
          rw [hah, hx_congr heval] at hs
          refine ⟨hs.1, ⟨keep _ _ (fun _ => ?_), hP _ _⟩, swap _ _ hs.2⟩
          rcases hls with hls | hls
          · rw [hxo] at hls
            exact px_heap (by simpa using hls) _ _
          · exact hls
def disj : PV → PV → Prop
  | .val (.pointer (some x)), .val (.pointer (some y)) => ¬ x.block = y.block
  | _, _ => False
def ptrT : Op → Tmp
  | .load _ (.tmp p) => p
  | .store _ (.tmp p) _ => p
  | _ => 0
def ptrAt (ops : Array Oper) (i : Nat) : Tmp :=
  match ops[i]? with
  | some o => ptrT o.op
  | none => 0
def dynOK (ops : Array Oper) (a : AS) (i : Nat) : List Nat → Prop
  | [] => True
  | j :: js => disj (a.get (ptrAt ops i)) (a.get (ptrAt ops j)) ∧ dynOK ops a i js
def wpO2 (E : Env) (S : Specs E) (ops : Array Oper) : List (Nat × List Nat) → (AS → Prop) → AS → Prop
  | [], Q, a => Q a
  | i :: l, Q, a => dynOK ops a i.1 i.2 ∧ LOp E S ops i.1 (wpO2 E S ops l Q) a
theorem wpO2.mono {Q Q' : AS → Prop} (hq : ∀ a, Q a → Q' a) : ∀ (l : List (Nat × List Nat)) {a : AS}, wpO2 E S ops l Q a → wpO2 E S ops l Q' a
  | [], _, h => hq _ h
  | _ :: l, _, h => ⟨h.1, LOp.mono (fun _ k => wpO2.mono hq l k) h.2⟩
end
theorem SWO.own_let {E : Env} {ops : Array Oper} {rest : List Oper} {Q : Exit → AS → Prop} {a : AS} {h0 : Heap} (t : Nat) {e : TypeId} {sz : Nat} {xs : List (List PV)} {v : PV} (hv : a.get t = v) (hown : Own h0 e sz xs v a.h) (k : SWO E ops rest Q { a.put (some t) (.list sz xs) with h := h0 }) : SWO E ops rest Q a := by
  intro w I G act g r
  have hs := r.slot t
  rw [hv] at hs
  rcases hown with ⟨rfl, rfl, hh⟩ | ⟨r0, cap, rfl, hle, hcm, h0r, hh, hwd⟩
  · have hs := R_val hs
    have r' := r.set t (.list sz []) (by rw [hs]; show R1 w I _ _; simp only [R1]; exact ⟨none, 0, [], rfl, Nat.le_refl _, by simp [maxLen], by simp [RE], fun h => absurd rfl h⟩) h0
    have := k w I G act (by show Good E w I G h0; rw [← hh]; exact g) r'
    simp only at this
    rw [hh]
    exact this
  · have hs := R_val hs
    have hr0 : a.h r0 = some (.cells e (cap * sz) xs.flatten) := by rw [hh]; exact Heap.put_same _ _ _
    obtain ⟨g', s⟩ := g.let_go hr0 rfl
    obtain ⟨_, _, _, us, rs, hcell, hrl, hsz⟩ := g.own _ _ hr0
    have hk := s.keeps g
    have hdel : a.h.del r0 = h0 := by rw [hh, Heap.del_put _ _ _ h0r]
    rw [hdel] at g' s
    have r' := (r.keeps hk).set t (.list sz xs) (by
      rw [hs]
      exact R1_row hcell (.inr rfl) (RE_of_flat hwd (RL.keeps hk _ _ hrl)) rfl hle hcm) h0
    exact SWO.on k s g' r'
end Go.Proofs.YtpgnfbdkhakbdaaGreatDoor.Lift

namespace Go.Proofs.YtpgnfbdkhakbdaaGreatDoor.Lift
open Go
section
variable {H : Type} {enc : TypeId × Value → H} {P : Program} {w : World} {base : Nat} {sp : Nat → Bool} {held : Bool} {t e : TypeId} {n fuel : Nat} {cs : List Value} {p : List MemPlace}

end
section
variable {E : Env}
theorem Good.drew {w : World} {I : Nat → Prop} {G : Nat → Option Nat} {h : Heap} (g : Good E w I G h) (w' : World) (hw : w'.heap = w.heap) : Good E w' I G h := by
  have hk : Keeps w I w' I := fun k hk => ⟨hk, by rw [hw]⟩
  refine ⟨fun r o h => ?_, fun k r h => ?_, fun k h => by rw [hw]; exact g.imm k h, fun g0 cs e => R1.keeps hk _ _ (g.glob g0 cs e), E.keepW _ _ _ _ hk g.inv⟩
  · obtain ⟨k1, k2, k3, k4⟩ := g.own r o h
    refine ⟨by rw [hw]; exact k1, k2, k3, ?_⟩
    cases o with
    | cells t size cs => obtain ⟨us, rest, e1, e2, e3⟩ := k4; exact ⟨us, rest, by rw [hw]; exact e1, RL.keeps hk _ _ e2, e3⟩
    | bld => unfold RObj at k4 ⊢; rw [hw]; exact k4
    | iter => unfold RObj at k4 ⊢; rw [hw]; exact k4
    | pmap => unfold RObj at k4 ⊢; rw [hw]; exact k4
    | miter => unfold RObj at k4 ⊢; rw [hw]; exact k4
    | gmap => obtain ⟨ents, e1, e2⟩ := k4; exact ⟨ents, by rw [hw]; exact e1, RM.keeps hk _ _ e2⟩
  · rw [hw]; exact g.hid k r h
end
end Go.Proofs.YtpgnfbdkhakbdaaGreatDoor.Lift

namespace Go.Proofs.YtpgnfbdkhakbdaaGreatDoor.Lift
open Go Go.RowKit
section
variable {E : Env}

def LetGo (E : Env) (H : Heap) (v : PV) (h0 : Heap) (v2 : PV) : Prop := ∀ w I G, Good E w I G H → ∃ I' G', Good E w I' G' h0 ∧ Stp E.mono w I G H w I' G' h0 ∧ Keeps w I w I' ∧ ∀ u, R w I v u → R w I' v2 u
theorem LetGo.refl (H : Heap) (v : PV) : LetGo E H v H v := fun _ I G g => ⟨I, G, g, .refl .., fun _ h => ⟨h, rfl⟩, fun _ h => h⟩
theorem LetGo.trans {H1 H2 H3 : Heap} {v1 v2 v3 : PV} (a : LetGo E H1 v1 H2 v2) (b : LetGo E H2 v2 H3 v3) : LetGo E H1 v1 H3 v3 := fun w I G g => by
  obtain ⟨I1, G1, g1, s1, k1, r1⟩ := a w I G g
  obtain ⟨I2, G2, g2, s2, k2, r2⟩ := b w I1 G1 g1
  exact ⟨I2, G2, g2, s1.trans s2, fun k h => ⟨(k2 k (k1 k h).1).1, rfl⟩, fun u h => r2 u (r1 u h)⟩
theorem Own.letGo1 {h0 H : Heap} {e : TypeId} {sz : Nat} {xs : List (List PV)} {v : PV} (hown : Own h0 e sz xs v H) {w : World} {I : Nat → Prop} {G : Nat → Option Nat} (g : Good E w I G H) :
    ∃ I' G', Good E w I' G' h0 ∧ Stp E.mono w I G H w I' G' h0 ∧ Keeps w I w I' ∧ ∀ u, R1 w I v u → R1 w I' (.list sz xs) u := by
  rcases hown with ⟨rfl, rfl, hh⟩ | ⟨r0, cap, rfl, hle, hcm, h0r, hh, hwd⟩
  · subst hh
    refine ⟨I, G, g, .refl .., fun _ h => ⟨h, rfl⟩, fun u hu => ?_⟩
    obtain ⟨rfl, _⟩ : u = _ ∧ _ := hu
    simp only [R1]
    exact ⟨none, 0, [], rfl, Nat.le_refl _, by simp [maxLen], by simp [RE], fun h => absurd rfl h⟩
  · have hr0 : H r0 = some (.cells e (cap * sz) xs.flatten) := by rw [hh]; exact Heap.put_same _ _ _
    obtain ⟨g', s⟩ := g.let_go hr0 rfl
    obtain ⟨_, _, _, us, rs, hcell, hrl, hsz⟩ := g.own _ _ hr0
    have hk := s.keeps g
    have hdel : H.del r0 = h0 := by rw [hh, Heap.del_put _ _ _ h0r]
    rw [hdel] at g' s
    refine ⟨_, G, g', s, hk, fun u hu => ?_⟩
    obtain ⟨rfl, _⟩ : u = _ ∧ _ := hu
    exact R1_row hcell (.inr rfl) (RE_of_flat hwd (RL.keeps hk _ _ hrl)) rfl hle hcm
theorem OwnC.letGo1 {h0 H : Heap} {e : TypeId} {sz : Nat} {xs : List (List PV)} {v : PV} (hown : OwnC h0 e sz xs v H) {w : World} {I : Nat → Prop} {G : Nat → Option Nat} (g : Good E w I G H) :
    ∃ I' G', Good E w I' G' h0 ∧ Stp E.mono w I G H w I' G' h0 ∧ Keeps w I w I' ∧ ∀ u, R1 w I v u → R1 w I' (.list sz xs) u := by
  rcases hown with ⟨rfl, rfl, hh⟩ | hown
  · subst hh
    refine ⟨I, G, g, .refl .., fun _ h => ⟨h, rfl⟩, fun u hu => ?_⟩
    simp only [R1] at hu ⊢
    obtain ⟨A, rfl⟩ := hu
    exact ⟨A, 0, [], rfl, Nat.le_refl _, by simp [maxLen], by simp [RE], fun h => absurd rfl h⟩
  · exact hown.letGo1 g
theorem RL.swap {w : World} {I I' : Nat → Prop} (hk : Keeps w I w I') {v v' : PV} (hv : ∀ u, R1 w I v u → R1 w I' v' u) : ∀ (xs ys : List PV) (us : List Value), RL w I (xs ++ v :: ys) us → RL w I' (xs ++ v' :: ys) us
  | [], ys, us, h => by
    obtain ⟨u, us', rfl, h1, h2⟩ := h
    exact ⟨u, us', rfl, hv u h1, RL.keeps hk _ _ h2⟩
  | x :: xs, ys, us, h => by
    obtain ⟨u, us', rfl, h1, h2⟩ := h
    exact ⟨u, us', rfl, R1.keeps hk _ _ h1, RL.swap hk hv xs ys us' h2⟩
theorem R0s.keeps' {w : World} {I I' : Nat → Prop} (hk : Keeps w I w I') : ∀ (xs : List PV) (us : List Value), R0s w I xs us → R0s w I' xs us
  | [], _, h => h
  | x :: xs, us, h => by
    obtain ⟨u, us', rfl, h1, h2⟩ := h
    exact ⟨u, us', rfl, R0.keeps hk _ _ h1, R0s.keeps' hk xs us' h2⟩
theorem Own.letGo {h0 H : Heap} {e : TypeId} {sz : Nat} {xs : List (List PV)} {v : PV} (hown : Own h0 e sz xs v H) (pre post rest : List PV) :
    LetGo E H (.tuple (.agg (pre ++ v :: post) :: rest)) h0 (.tuple (.agg (pre ++ .list sz xs :: post) :: rest)) := fun w I G g => by
  obtain ⟨I', G', g', s, hk, hr⟩ := hown.letGo1 g
  refine ⟨I', G', g', s, hk, fun u hu => ?_⟩
  obtain ⟨us, rfl, hu⟩ : ∃ us : List Value, u = .tuple us.toArray ∧ R0s w I (.agg (pre ++ v :: post) :: rest) us := hu
  obtain ⟨u1, us', rfl, h1, h2⟩ := hu
  obtain ⟨cs, rfl, h1⟩ : ∃ cs : List Value, u1 = .agg cs.toArray ∧ RL w I (pre ++ v :: post) cs := h1
  refine ⟨_, rfl, _, us', rfl, ⟨cs, rfl, RL.swap hk hr _ _ _ h1⟩, R0s.keeps' hk _ _ h2⟩
theorem OwnC.letGo {h0 H : Heap} {e : TypeId} {sz : Nat} {xs : List (List PV)} {v : PV} (hown : OwnC h0 e sz xs v H) (pre post rest : List PV) :
    LetGo E H (.tuple (.agg (pre ++ v :: post) :: rest)) h0 (.tuple (.agg (pre ++ .list sz xs :: post) :: rest)) := fun w I G g => by
  obtain ⟨I', G', g', s, hk, hr⟩ := hown.letGo1 g
  refine ⟨I', G', g', s, hk, fun u hu => ?_⟩
  obtain ⟨us, rfl, hu⟩ : ∃ us : List Value, u = .tuple us.toArray ∧ R0s w I (.agg (pre ++ v :: post) :: rest) us := hu
  obtain ⟨u1, us', rfl, h1, h2⟩ := hu
  obtain ⟨cs, rfl, h1⟩ : ∃ cs : List Value, u1 = .agg cs.toArray ∧ RL w I (pre ++ v :: post) cs := h1
  refine ⟨_, rfl, _, us', rfl, ⟨cs, rfl, RL.swap hk hr _ _ _ h1⟩, R0s.keeps' hk _ _ h2⟩
theorem SCalls.letGo {f : FuncId} {args : List PV} {h : Heap} {Q Q' : SEnd → Heap → Prop} (hc : SCalls E f args h Q) (hq : ∀ e h', Q e h' → ∃ v v2 h2, e = .ret v ∧ LetGo E h' v h2 v2 ∧ Q' (.ret v2) h2) : SCalls E f args h Q' :=
  ⟨hc.1, fun w I G vs g r => (hc.2 w I G vs g r).mono fun e w' ⟨I', G', h', g', s, q⟩ => by
    cases e with
    | returned u =>
      obtain ⟨p, hp, q⟩ := q
      obtain ⟨v, v2, h2, e1, hl, q2⟩ := hq _ _ q
      injection e1 with e1
      subst e1
      obtain ⟨I2, G2, g2, s2, k2, r2⟩ := hl w' I' G' g'
      exact ⟨I2, G2, h2, g2, s.trans s2, v2, r2 u hp, q2⟩
    | panicked c =>
      obtain ⟨v, v2, h2, e1, _⟩ := hq _ _ q
      cases e1
    | outgrown => exact ⟨I', G', h', g', s, q⟩⟩
end
end Go.Proofs.YtpgnfbdkhakbdaaGreatDoor.Lift

namespace Go.Proofs.YtpgnfbdkhakbdaaGreatDoor.Lift
open Go Go.RowKit
section
variable {E : Env}
theorem SWO.makeMap {ops : Array Oper} {o : Oper} {rest : List Oper} {Q : Exit → AS → Prop} {a : AS} (t : TypeId) (hop : o.op = .makeMap t none) (hg : wantedA ops a o = some true) (hd : okDst a.n o.dst = true)
    (k : ∀ r, a.h r = none → SWO E ops rest Q { a.put o.dst (.val (.map (some r))) with h := a.h.put r (.pmap []) }) : SWO E ops (o :: rest) Q a := by
  refine SWO.to hg hd fun w I G act g r => ?_
  have hob : RObj (w.alloc (.map #[] 0)) I G w.heap.size (.pmap []) := by
    show (w.alloc (.map #[] 0)).heap[w.heap.size]? = some (pairMap [])
    rw [heap_alloc_at]
    rfl
  obtain ⟨g', s⟩ := g.alloc_own' _ hob
  refine ⟨_, .map (some w.heap.size), _, I, G, _, .val (.map (some w.heap.size)), ?_, .inl rfl, g', s, ⟨rfl, rfl⟩, k _ g.fresh⟩
  simp only [execOp, hop, Instr.makeMap, Sem.run_bind, Option.map_none]
  rfl
end
end Go.Proofs.YtpgnfbdkhakbdaaGreatDoor.Lift

namespace Go.Proofs.YtpgnfbdkhakbdaaGreatDoor.Lift
open Go Go.RowKit
variable {E : Env}
end Go.Proofs.YtpgnfbdkhakbdaaGreatDoor.Lift
