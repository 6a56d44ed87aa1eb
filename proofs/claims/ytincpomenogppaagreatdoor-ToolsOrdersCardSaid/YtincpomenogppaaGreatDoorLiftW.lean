/- What holds without package variables holds with them. -/
import Derived.Test.YtincpomenogppaaGreatDoorLiftQ
import Derived.OpenShut
import Derived.FnData
import Derived.Laws.FloatArith
import Derived.MapKept
import Derived.WideKeyRuns
set_option linter.unusedSimpArgs false
set_option linter.unusedVariables false
namespace Go.Proofs.YtincpomenogppaaGreatDoor.Lift
open Go Go.RowKit
variable {E : Env}

def Env.glob (E : Env) (l : List (Nat × List PV)) : Env := { E with gl := l }
variable {w w' : World} {I I' : Nat → Prop} {G G' : Nat → Option Nat} {h h' : Heap} {l : List (Nat × List PV)}
theorem Good.less (hgl : E.gl = []) (g : Good (E.glob l) w I G h) : Good E w I G h := ⟨g.own, g.hid, g.imm, (fun _ _ e => by rw [hgl] at e; cases e), g.inv⟩
theorem Good.more (g : Good (E.glob l) w I G h) (g' : Good E w' I' G' h') (s : Stp E.mono w I G h w' I' G' h') : Good (E.glob l) w' I' G' h' := ⟨g'.own, g'.hid, g'.imm, fun g0 cs e => R1.keeps (Stp.keeps (E := E.glob l) s g) _ _ (g.glob g0 cs e), E.keepW _ _ _ _ (Stp.keeps (E := E.glob l) s g) g.inv⟩
theorem SCalls.glob {f : FuncId} {args : List PV} {Q : SEnd → Heap → Prop} (hc : SCalls E f args h Q) (hgl : E.gl = []) (l : List (Nat × List PV)) : SCalls (E.glob l) f args h Q :=
  ⟨hc.1, fun w I G vs g r => (hc.2 w I G vs (g.less hgl) r).mono fun _ _ ⟨I', G', h', g', s, q⟩ => ⟨I', G', h', g.more g' s, s, q⟩⟩
theorem XCalls.glob {f : FuncId} {args : List PV} {v : PV} (hc : XCalls E f args h v) (hgl : E.gl = []) (l : List (Nat × List PV)) : XCalls (E.glob l) f args h v :=
  fun w I G vs g r => hc w I G vs (g.less hgl) r
theorem FCalls.glob {f : FuncId} {args : List PV} {v : PV} (hc : FCalls E f args h v) (hgl : E.gl = []) (l : List (Nat × List PV)) : FCalls (E.glob l) f args h v := by
  exact hc.imp (fun c => c.glob hgl l) (fun c => c.glob hgl l)
def SpecE.up (s : SpecE E) (hgl : E.gl = []) (l : List (Nat × List PV)) : SpecE (E.glob l) := ⟨s.f, s.s, fun args h hc => (s.ok args h hc).glob hgl l⟩
theorem SCalls.ofRead {f : FuncId} {fn : Func} {c : Code} (hf : E.P.funcs[f]? = some fn) (hb : fn.body = some c) (hn : (fn.name == "runtime.NumGoroutine") = false) {args : List PV} {v : PV}
    (k : ∀ w I G vs, Good E w I G h → R0s w I args vs → ∃ u, R w I v u ∧ Calls E.P f vs.toArray w fun e w' => e = .returned u ∧ w' = w) : SCalls E f args h (Ret v h) :=
  ⟨⟨fn, c, hf, hb, hn⟩, fun w I G vs g r => by
    obtain ⟨u, hu, hc⟩ := k w I G vs g r
    refine hc.mono ?_
    rintro e w' ⟨rfl, rfl⟩
    exact ⟨I, G, h, g, .refl .., v, hu, rfl, rfl⟩⟩
theorem SCalls.belowG {f : FuncId} {args : List PV} {v : Value} {p : PV} (hc : SCalls E f args noHeap (Ret p noHeap)) (hp : ∀ w I u, R w I p u → u = v) (w : World) (I : Nat → Prop) (hI : ∀ k, I k → k < w.heap.size)
    (hgl : ∀ g cs, look E.gl g = some cs → R1 w I (.elem cs) (.pointer (some ⟨g, 0, none⟩))) (vs : List Value) (hr : R0s w I args vs) (hwi : E.winv w I) :
    Calls E.P f vs.toArray w (fun e w' => e = .returned v ∧ Below w.heap.size w w') := by
  have g : Good E w I (fun _ => none) noHeap := Good.mk (fun r o h => nomatch h) (fun k r h => nomatch h) hI hgl hwi
  refine (hc.2 w I (fun _ => none) vs g hr).mono ?_
  rintro e w' ⟨I', G', h', g', s, q⟩
  cases e with
  | returned u =>
    obtain ⟨p', hp', q1, q2⟩ := q
    injection q1 with q1
    subst q1
    exact ⟨by rw [hp _ _ _ hp'], ⟨s.os, s.tape, s.output, s.size, fun k hk => (s.keep k hk rfl rfl).1⟩⟩
  | panicked c => obtain ⟨q1, _⟩ := q; cases q1
  | outgrown => exact q.elim
end Go.Proofs.YtincpomenogppaaGreatDoor.Lift

namespace Go.Proofs.YtincpomenogppaaGreatDoor.Lift
open Go Go.RowKit
variable {E : Env} {w w' : World} {I : Nat → Prop} {G : Nat → Option Nat} {h : Heap}

theorem Good.below (g : Good E w I G h) (b : Below w.heap.size w w') (hm : E.mono = false) : Good E w' I G h ∧ Stp E.mono w I G h w' I G h := by
  have hk : Keeps w I w' I := fun k hk => ⟨hk, b.block k (g.imm k hk)⟩
  refine ⟨⟨fun r o e => ?_, fun k r e => ?_, fun k e => Nat.lt_of_lt_of_le (g.imm k e) b.size, fun g0 cs e => R1.keeps hk _ _ (g.glob g0 cs e), E.keepW _ _ _ _ hk g.inv⟩, ⟨b.os, b.tape, b.output, b.size, fun k hk a c => ⟨b.block k hk, a, c⟩, fun _ h => h, fun _ _ _ _ h => h, fun e => by rw [hm] at e; cases e⟩⟩
  · obtain ⟨k1, k2, k3, k4⟩ := g.own r o e
    exact ⟨Nat.lt_of_lt_of_le k1 b.size, k2, k3, k4.keeps hk (b.block r k1) fun k hG => ⟨hG, b.block k (g.hid k r hG).1⟩⟩
  · obtain ⟨k1, k2, k3, k4⟩ := g.hid k r e
    exact ⟨Nat.lt_of_lt_of_le k1 b.size, k2, k3, k4⟩
theorem SCalls.ofBelow {f : FuncId} {fn : Func} {c : Code} (hf : E.P.funcs[f]? = some fn) (hb : fn.body = some c) (hn : (fn.name == "runtime.NumGoroutine") = false) {args : List PV} {v : PV}
    (k : ∀ w I G vs, Good E w I G h → R0s w I args vs → ∃ u, (∀ w', R w' I v u) ∧ Calls E.P f vs.toArray w fun e w' => e = .returned u ∧ Below w.heap.size w w') (hm : E.mono = false := by rfl) : SCalls E f args h (Ret v h) :=
  ⟨⟨fn, c, hf, hb, hn⟩, fun w I G vs g r => by
    obtain ⟨u, hu, hc⟩ := k w I G vs g r
    refine hc.mono ?_
    rintro e w' ⟨rfl, b⟩
    obtain ⟨g', s⟩ := g.below b hm
    exact ⟨I, G, h, g', s, v, hu w', rfl, rfl⟩⟩
end Go.Proofs.YtincpomenogppaaGreatDoor.Lift

namespace Go.Proofs.YtincpomenogppaaGreatDoor.Lift
open Go Go.RowKit
variable {E : Env}

theorem SWO.enter {ops : Array Oper} {l1 : List Oper} {Q : Exit → AS → Prop} {a : AS} {n : Nat} {l : List (Nat × PV)} {H : Heap} (m : Meet E n l H a) (k : SWO E ops l1 Q ⟨n, l, H⟩) : SWO E ops l1 Q a := by
  obtain ⟨hn, ht, hs⟩ := m
  intro w I G act g r
  obtain ⟨I', G', g', s⟩ := ht w I G g
  have r1 := r.keeps (s.keeps g)
  refine SWO.on k s g' ⟨r1.defers, r1.size.trans hn, fun t => ?_⟩
  show R w I' ((look l t).getD .any) _
  cases e : look l t with
  | none => exact trivial
  | some v =>
    have := hasAll_look hs e
    rw [Option.getD_some, ← this]
    exact r1.slot t
theorem SWO.nilSplit {ops : Array Oper} {rest : List Oper} {Q : Exit → AS → Prop} {a : AS} (t : Nat) {sz : Nat} {xs : List (List PV)} (ht : a.get t = .list sz xs) (hsz : 0 < sz)
    (k1 : xs = [] → ∀ c, SWO E ops rest Q (a.put (some t) (.val (.slice none xs.length c)))) (k2 : ∀ ad c, SWO E ops rest Q (a.put (some t) (.val (.slice (some ad) xs.length c)))) : SWO E ops rest Q a := by
  intro w I G act g r
  have hs := r.slot t
  rw [ht] at hs
  obtain ⟨A, c, us, e, hl, hm, hr, hat⟩ := R_list hs
  cases A with
  | none =>
    have hx : xs = [] := by
      have hl := hr.length
      cases us with
      | nil =>
        cases xs with
        | nil => rfl
        | cons x xs => simp [Nat.add_mul] at hl; omega
      | cons u us =>
        obtain ⟨_, h, _⟩ := hat (by simp)
        cases h
    have r' := r.set t (.val (.slice none xs.length c)) (by rw [e]; exact ⟨rfl, rfl⟩) a.h
    exact k1 hx c w I G act g r'
  | some ad =>
    have r' := r.set t (.val (.slice (some ad) xs.length c)) (by rw [e]; exact ⟨rfl, rfl⟩) a.h
    exact k2 ad c w I G act g r'
end Go.Proofs.YtincpomenogppaaGreatDoor.Lift

namespace Go.Proofs.YtincpomenogppaaGreatDoor.Lift
open Go Go.RowKit

section
variable {E : Env} {S : Specs E} {w w1 w' : World} {I I1 I' : Nat → Prop} {G G1 G' : Nat → Option Nat} {h : Heap} {ops : Array Oper} {md : Region.Mode}

theorem LOp.pastP {j : Nat} {oi oj : Oper} {v : PV} {a : AS} {K : AS → Prop} (hK : ∀ a b, AEq a b → K a → K b) (hj : ops[j]? = some oj) (hap : oi.apart ops oj = true) {P : AS → Prop} (hP : ∀ u h', P { a.put oj.dst u with h := h' }) (hls : (isLoad oi.op && hxOp S oj.op) = false ∨ px E S (a.eval E) (hx E S (a.eval E) a.h oj.op).2.2 oi.op = px E S (a.eval E) a.h oi.op)
    (hy : LY E S ops oi v a) (hs : LOp E S ops j K (a.put oi.dst v)) : LOp E S ops j (fun a' => (LY E S ops oi v a' ∧ P a') ∧ K (a'.put oi.dst v)) a := by
  have hP' : ∀ u, P (a.put oj.dst u) := fun u => by
    have := hP u a.h
    have e : ({ a.put oj.dst u with h := a.h } : AS) = a.put oj.dst u := by cases oj.dst <;> rfl
    rw [e] at this
    exact this
  obtain ⟨h1, h2, h3⟩ := Oper.apart_spec hap
  have hn : ∀ (d : Option Tmp) (v : PV), (a.put d v).n = a.n := fun d v => by cases d <;> rfl
  have keep : ∀ (u : PV) (h' : Heap), ((px E S (a.eval E) a.h oi.op).1 → px E S (a.eval E) h' oi.op = px E S (a.eval E) a.h oi.op) → LY E S ops oi v { a.put oj.dst u with h := h' } := fun u h' hh => by
    refine ⟨(congrArg (fun n => okDst n oi.dst) (hn oj.dst u)).trans hy.1, ?_⟩
    have hw : wantedA ops { a.put oj.dst u with h := h' } oi = wantedA ops a oi := (wanted_putA (v := u) h3 : wantedA ops (a.put oj.dst u) oi = wantedA ops a oi)
    have hp : px E S (AS.eval E { a.put oj.dst u with h := h' }) h' oi.op = px E S (a.eval E) h' oi.op := by
      have : AS.eval E { a.put oj.dst u with h := h' } = (a.put oj.dst u).eval E := by funext x; cases x <;> rfl
      rw [this]
      exact px_put h3
    rw [hw]
    show (_ ∧ (px E S (AS.eval E { a.put oj.dst u with h := h' }) h' oi.op).1 ∧ v = (px E S (AS.eval E { a.put oj.dst u with h := h' }) h' oi.op).2) ∨ _
    rw [hp]
    rcases hy.2 with ⟨hw, hp, rfl⟩ | ⟨hw, rfl⟩
    · rw [hh hp]; exact .inl ⟨hw, hp, rfl⟩
    · exact .inr ⟨hw, rfl⟩
  have same : ∀ (u : PV), LY E S ops oi v (a.put oj.dst u) := fun u => by
    have := keep u a.h (fun _ => rfl)
    have e : ({ a.put oj.dst u with h := a.h } : AS) = a.put oj.dst u := by cases oj.dst <;> rfl
    rw [e] at this
    exact this
  have swap : ∀ (u : PV) (h' : Heap), K { (a.put oi.dst v).put oj.dst u with h := h' } → K ({ a.put oj.dst u with h := h' }.put oi.dst v) := fun u h' k => by
    have e : ({ a.put oj.dst u with h := h' } : AS).put oi.dst v = { (a.put oj.dst u).put oi.dst v with h := h' } := by cases oi.dst <;> rfl
    rw [e]
    exact hK _ _ ((put_comm a v u h2).heap h') k
  have swap' : ∀ (u : PV), K ((a.put oi.dst v).put oj.dst u) → K ((a.put oj.dst u).put oi.dst v) := fun u k => hK _ _ (put_comm a v u h2) k
  have heval : ∀ x ∈ oj.op.operands, (a.put oi.dst v).eval E x = a.eval E x := fun x hx => eval_put fun t e e2 => h1 t e (by subst e2; exact List.mem_append_left _ (List.mem_filterMap.2 ⟨.tmp t, by simpa using hx, rfl⟩))
  have hah : (a.put oi.dst v).h = a.h := put_h a _ _
  unfold LOp at hs ⊢
  simp only [hj] at hs ⊢
  rw [hn oi.dst v, wanted_putA (v := v) h1] at hs
  refine ⟨hs.1, ?_⟩
  have hs := hs.2
  cases hw : wantedA ops a oj with
  | none => rw [hw] at hs; simp at hs
  | some b =>
    rw [hw] at hs
    cases b with
    | false =>
      rw [if_neg (by simp), if_pos rfl] at hs ⊢
      exact ⟨⟨same _, hP' _⟩, swap' _ hs⟩
    | true =>
      rw [if_pos rfl] at hs ⊢
      cases hq : quietOp S oj.op with
      | true =>
        rw [step1_quiet hq] at hs ⊢
        rw [hah, px_put h1] at hs
        exact ⟨hs.1, ⟨same _, hP' _⟩, swap' _ hs.2⟩
      | false =>
        unfold Lift.step1 at hs ⊢
        split at hs
        · rename_i t hop
          rw [hah] at hs
          exact ⟨hs.1, fun r hr => ⟨⟨keep _ _ fun hp => px_fresh hr hp, hP _ _⟩, swap _ _ (hs.2 r hr)⟩⟩
        · rename_i t x hop
          rw [heval x (by rw [hop]; simp [Op.operands]), hah] at hs
          exact ⟨hs.1, fun r hr => ⟨⟨keep _ _ fun hp => px_fresh hr hp, hP _ _⟩, swap _ _ (hs.2 r hr)⟩⟩
        · rename_i n1 n2
          by_cases hoc : isOwnCall S oj.op = true
          · rw [if_pos hoc] at hs ⊢
            have hos : ownSpec S ((a.put oi.dst v).eval E) oj.op = ownSpec S (a.eval E) oj.op := ownSpec_congr heval
            rw [hah, hos] at hs
            refine ⟨hs.1, fun u h' ow => ⟨⟨keep _ _ fun hp => ?_, hP _ _⟩, swap _ _ (hs.2 u h' ow)⟩⟩
            rcases ow.shape with rfl | ⟨r, X, hr, rfl⟩
            · rfl
            · exact px_fresh hr hp
          rw [if_neg hoc] at hs ⊢
          have hxo : hxOp S oj.op = true := by
            unfold quietOp at hq
            split at hq
            · rename_i t hop; exact absurd hop (n1 t)
            · rename_i t x hop; exact absurd hop (n2 t x)
            · simp only [Bool.not_eq_false', Bool.or_eq_true] at hq
              exact hq.resolve_left hoc
          rw [if_pos hxo] at hs ⊢
          rw [hah, hx_congr heval] at hs
          refine ⟨hs.1, ⟨keep _ _ (fun _ => ?_), hP _ _⟩, swap _ _ hs.2⟩
          rcases hls with hls | hls
          · rw [hxo] at hls
            exact px_heap (by simpa using hls) _ _
          · exact hls
theorem LAny.firstP {Q : AS → Prop} (hQ : ∀ a b, AEq a b → Q a → Q b) {i : Nat} {oi : Oper} {v : PV} (hi : ops[i]? = some oi) (hq : quietOp S oi.op = true) {P : AS → Prop}
    (hPk : ∀ k ok, ops[k]? = some ok → k ≠ i → oi.apart ops ok = true → ∀ a u h', P a → P { a.put ok.dst u with h := h' }) :
    ∀ (fuel : Nat) (listed : Array Bool) (a : AS),
      (∀ j oj, ops[j]? = some oj → j ≠ i → listed.getD j true = false → waits md ops i ops.size j = false → oi.apart ops oj = true ∧ ((isLoad oi.op && hxOp S oj.op) = false ∨ ∀ a, P a → px E S (a.eval E) (hx E S (a.eval E) a.h oj.op).2.2 oi.op = px E S (a.eval E) a.h oi.op)) →
      Closed md ops listed → i ∈ Region.ready md ops listed → LY E S ops oi v a → P a →
      LAny E S md ops Q fuel (listed.setIfInBounds i true) (a.put oi.dst v) → LAny E S md ops Q (fuel + 1) listed a := by
  intro fuel
  induction fuel with
  | zero =>
    intro listed a _ _ hr hy _ H
    refine ⟨fun h => (by rw [h] at hr; cases hr), fun j hj => ?_⟩
    by_cases hji : j = i
    · subst hji; exact hy.lop hi hq H
    · have := ready_mono hj hji
      rw [H.1] at this
      cases this
  | succ fuel ih =>
    intro listed a hfree hcl hr hy hPa H
    refine ⟨fun h => (by rw [h] at hr; cases hr), fun j hj => ?_⟩
    by_cases hji : j = i
    · subst hji; exact hy.lop hi hq H
    · have h1 := H.2 j (ready_mono hj hji)
      obtain ⟨hjun, oj, hoj, hall⟩ := mem_ready.1 hj
      have hi0 : listed.getD i false = false := by
        have h0 := (mem_ready.1 hr).1
        rcases Nat.lt_or_ge i listed.size with h' | h'
        · simp [h'] at h0 ⊢; exact h0
        · simp [Array.getElem?_eq_none h'] at h0
      have hnot : waits md ops i ops.size j = false := waits_no hcl hi0 _ _ _ hoj hall
      obtain ⟨hap, hls⟩ := hfree j oj hoj hji hjun hnot
      have h2 := LOp.pastP (P := P) (fun _ _ e k => AEq.lany hQ fuel e k) hoj hap (fun u h' => hPk j oj hoj hji hap a u h' hPa) (hls.imp (fun x => x) (fun x => x a hPa)) hy h1
      have hfree' : ∀ k ok, ops[k]? = some ok → k ≠ i → (listed.setIfInBounds j true).getD k true = false →
          waits md ops i ops.size k = false → oi.apart ops ok = true ∧ ((isLoad oi.op && hxOp S ok.op) = false ∨ ∀ a, P a → px E S (a.eval E) (hx E S (a.eval E) a.h ok.op).2.2 oi.op = px E S (a.eval E) a.h oi.op) := fun k ok hk hki hun hno => by
        refine hfree k ok hk hki ?_ hno
        by_cases hjk : j = k
        · subst hjk; exact hjun
        · rw [getD_set_ne true hjk] at hun; exact hun
      refine LOp.mono (fun a' h3 => ih (listed.setIfInBounds j true) a' hfree' (hcl.step (ready_mono hj hji |> fun _ => hj)) (ready_mono hr (Ne.symm hji)) h3.1.1 h3.1.2 ?_) h2
      rw [Array.setIfInBounds_comm _ _ hji]
      exact h3.2

def disj : PV → PV → Prop
  | .val (.pointer (some x)), .val (.pointer (some y)) => ¬ x.block = y.block
  | _, _ => False
def ptrT : Op → Tmp
  | .load _ (.tmp p) => p
  | .store _ (.tmp p) _ => p
  | _ => 0
def ptrAt (ops : Array Oper) (i : Nat) : Tmp :=
  match ops[i]? with
  | some o => ptrT o.op
  | none => 0
def dynOK (ops : Array Oper) (a : AS) (i : Nat) : List Nat → Prop
  | [] => True
  | j :: js => disj (a.get (ptrAt ops i)) (a.get (ptrAt ops j)) ∧ dynOK ops a i js
theorem dynOK_mem {a : AS} {i : Nat} : ∀ {js : List Nat}, dynOK ops a i js → ∀ j ∈ js, disj (a.get (ptrAt ops i)) (a.get (ptrAt ops j))
  | [], _, j, hj => by cases hj
  | k :: js, h, j, hj => by
    rcases List.mem_cons.1 hj with rfl | hj
    · exact h.1
    · exact dynOK_mem h.2 j hj
theorem dynOK_of {a : AS} {i : Nat} : ∀ {js : List Nat}, (∀ j ∈ js, disj (a.get (ptrAt ops i)) (a.get (ptrAt ops j))) → dynOK ops a i js
  | [], _ => trivial
  | k :: js, h => ⟨h k (List.mem_cons_self ..), dynOK_of fun j hj => h j (List.mem_cons_of_mem _ hj)⟩
def statD (ops : Array Oper) (oi oj : Oper) : Bool :=
  (match oi.op with
   | .load _ (.tmp _) => true
   | _ => false) &&
  (match oj.op with
   | .store _ (.tmp p) _ => ops.toList.all fun o => o.dst != some p
   | _ => false)
theorem hx_at {ρ : Operand → PV} {t : TypeId} {p x : Operand} {q : Nat} (hd : ∀ y, ρ p = .val (.pointer (some y)) → ¬ q = y.block) : (hx E S ρ h (.store t p x)).2.2 q = h q := by
  simp only [hx]
  cases E.ty t with
  | none => rfl
  | some i =>
    dsimp only
    split
    · rename_i r0 o0 hp
      split
      · exact Heap.put_ne _ _ (hd _ hp)
      · rfl
    · rfl
theorem px_disj {a : AS} {oi oj : Oper} (hs : statD ops oi oj = true) (hd : disj (a.get (ptrT oi.op)) (a.get (ptrT oj.op))) : px E S (a.eval E) (hx E S (a.eval E) a.h oj.op).2.2 oi.op = px E S (a.eval E) a.h oi.op := by
  unfold statD at hs
  rw [Bool.and_eq_true] at hs
  obtain ⟨h1, h2⟩ := hs
  split at h1
  · rename_i t p hi
    split at h2
    · rename_i t2 p2 x hj
      rw [hi, hj] at hd
      rw [hi, hj]
      simp only [ptrT] at hd
      simp only [px, pload]
      cases E.ty t with
      | none => rfl
      | some i =>
        dsimp only
        split
        · rfl
        · rename_i r o hp
          have hp : a.get p = .val (.pointer (some ⟨r, o, none⟩)) := hp
          rw [hp] at hd
          have : (hx E S (a.eval E) a.h (.store t2 (.tmp p2) x)).2.2 r = a.h r := hx_at fun y hy => by
            have hy : a.get p2 = .val (.pointer (some y)) := hy
            rw [hy] at hd
            exact hd
          rw [this]
        · rfl
    · cases h2
  · cases h1
def jsOK (ops : Array Oper) (i : Nat) (js : List Nat) : Bool :=
  match ops[i]? with
  | some oi => js.all fun j => match ops[j]? with
    | some oj => statD ops oi oj
    | none => false
  | none => false
def freeL2 (S : Specs E) (md : Region.Mode) (ops : Array Oper) (listed : Array Bool) (i : Nat) (js : List Nat) : Bool :=
  match ops[i]? with
  | none => false
  | some oi => quietOp S oi.op && jsOK ops i js && (List.range ops.size).all fun j => j == i || listed.getD j true || match ops[j]? with
      | some oj => waits md ops i ops.size j || (oi.apart ops oj && (!(isLoad oi.op && hxOp S oj.op) || js.contains j))
      | none => true
def ordOK2 (S : Specs E) (md : Region.Mode) (ops : Array Oper) : List (Nat × List Nat) → Array Bool → Bool
  | [], listed => (Region.ready md ops listed).isEmpty
  | i :: l, listed => (Region.ready md ops listed).contains i.1 && (ops[i.1]?).isSome && (freeL2 S md ops listed i.1 i.2 || Region.ready md ops listed == [i.1]) && ordOK2 S md ops l (listed.setIfInBounds i.1 true)
def wpO2 (E : Env) (S : Specs E) (ops : Array Oper) : List (Nat × List Nat) → (AS → Prop) → AS → Prop
  | [], Q, a => Q a
  | i :: l, Q, a => dynOK ops a i.1 i.2 ∧ LOp E S ops i.1 (wpO2 E S ops l Q) a
theorem wpO2_any {Q : AS → Prop} (hQ : ∀ a b, AEq a b → Q a → Q b) : ∀ (l : List (Nat × List Nat)) (listed : Array Bool) (a : AS), Closed md ops listed → ordOK2 S md ops l listed = true → wpO2 E S ops l Q a → LAny E S md ops Q l.length listed a
  | [], listed, a, _, hB, h => ⟨by simpa [ordOK2] using hB, h⟩
  | (i, js) :: l, listed, a, hcl, hB, h => by
    simp only [ordOK2, Bool.and_eq_true] at hB
    obtain ⟨⟨⟨hr, hi⟩, hf⟩, hB'⟩ := hB
    obtain ⟨oi, hi⟩ := Option.isSome_iff_exists.1 hi
    have hr : i ∈ Region.ready md ops listed := by simpa using hr
    simp only [wpO2] at h
    obtain ⟨hd, h⟩ := h
    rcases Bool.or_eq_true _ _ ▸ hf with hf | hf
    · simp only [freeL2, hi, Bool.and_eq_true, List.all_eq_true, List.mem_range] at hf
      obtain ⟨⟨hq, hjs⟩, hfree⟩ := hf
      simp only [jsOK, hi, List.all_eq_true] at hjs
      have hpi : ptrAt ops i = ptrT oi.op := by simp only [ptrAt, hi]
      obtain ⟨v, hy, hk⟩ := h.ly hi hq
      refine LAny.firstP (P := fun a => dynOK ops a i js) hQ hi hq ?_ l.length listed a ?_ hcl hr hy hd (wpO2_any hQ l _ _ (hcl.step hr) hB' hk)
      · intro k ok hok hki hap a u h' hP
        refine dynOK_of fun j hj => ?_
        have hst := hjs j hj
        cases hoj : ops[j]? with
        | none => rw [hoj] at hst; cases hst
        | some oj =>
          rw [hoj] at hst
          have hpj : ptrAt ops j = ptrT oj.op := by simp only [ptrAt, hoj]
          have hdj := dynOK_mem hP j hj
          have hst' := hst
          unfold statD at hst'
          rw [Bool.and_eq_true] at hst'
          obtain ⟨s1, s2⟩ := hst'
          have hget : ∀ (t : Tmp), ok.dst ≠ some t → ({ a.put ok.dst u with h := h' } : AS).get t = a.get t := fun t ht => by
            show (a.put ok.dst u).get t = a.get t
            cases hdst : ok.dst with
            | none => rfl
            | some d =>
              rw [hdst] at ht
              rw [AS.get_put, if_neg (fun e => ht (by rw [e]))]
          have n1 : ok.dst ≠ some (ptrAt ops i) := by
            intro e
            refine (Oper.apart_spec hap).2.2 _ e ?_
            rw [hpi]
            split at s1
            · rename_i t p hop
              rw [hop]
              refine List.mem_append_left _ (List.mem_filterMap.2 ⟨.tmp p, ?_, rfl⟩)
              rw [hop]
              simp [Op.operands]
            · cases s1
          have n2 : ok.dst ≠ some (ptrAt ops j) := by
            intro e
            rw [hpj] at e
            split at s2
            · rename_i t p x hop
              rw [hop] at e
              rw [List.all_eq_true] at s2
              have := s2 ok (by simpa using Array.mem_of_getElem? hok)
              simp only [ptrT] at e
              rw [e] at this
              simp at this
            · cases s2
          show disj (({ a.put ok.dst u with h := h' } : AS).get (ptrAt ops i)) (({ a.put ok.dst u with h := h' } : AS).get (ptrAt ops j))
          rw [hget _ n1, hget _ n2]
          exact hdj
      · intro j oj hoj hne hun hno
        have h1 := hfree j (Array.getElem?_eq_some_iff.1 hoj).1
        simp only [hoj, Bool.or_eq_true, beq_iff_eq, hne, false_or, hun, Bool.false_eq_true] at h1
        rcases h1 with h1 | h1
        · rw [hno] at h1; cases h1
        · simp only [Bool.and_eq_true, Bool.or_eq_true, Bool.not_eq_true'] at h1
          refine ⟨h1.1, h1.2.imp (fun x => x) fun hc a hP => ?_⟩
          have hj : j ∈ js := by simpa using hc
          have hst := hjs j hj
          rw [hoj] at hst
          have hdj := dynOK_mem hP j hj
          have hpj : ptrAt ops j = ptrT oj.op := by simp only [ptrAt, hoj]
          rw [hpi, hpj] at hdj
          exact px_disj hst hdj
    · have hf : Region.ready md ops listed = [i] := by simpa using hf
      refine ⟨fun e => (by rw [hf] at e; cases e), fun j hj => ?_⟩
      rw [hf] at hj
      have : j = i := by simpa using hj
      subst this
      exact h.mono fun a k => wpO2_any hQ l _ _ (hcl.step hr) hB' k
theorem wpO2.mono {Q Q' : AS → Prop} (hq : ∀ a, Q a → Q' a) : ∀ (l : List (Nat × List Nat)) {a : AS}, wpO2 E S ops l Q a → wpO2 E S ops l Q' a
  | [], _, h => hq _ h
  | _ :: l, _, h => ⟨h.1, LOp.mono (fun _ k => wpO2.mono hq l k) h.2⟩
theorem SW.regionAny2 (S : Specs E) {id : Nat} {l : List Oper} {Q : Exit → AS → Prop} {a : AS} (ls : List (Nat × List Nat)) (hm : E.P.follows .mixedOrders = true) (hlen : ls.length = l.length) (hord : ordOK2 S .any l.toArray ls (Array.replicate l.length false) = true)
    (h : wpO2 E S l.toArray ls (Q .normal) a) : SW E (.region id l.toArray true) Q a := by
  intro w I G act g r
  refine wp_region_any hm ?_
  have h1 : wpO2 E S l.toArray ls (fun b => ∃ c, AEq c b ∧ Q .normal c) a := wpO2.mono (fun c k => ⟨c, .refl c, k⟩) _ h
  have h2 := wpO2_any (md := .any) (fun a b e ⟨c, hc, k⟩ => ⟨c, hc.trans e, k⟩) _ _ _ (Closed.start _ _ _) hord h1
  have hk : Keeps w I { w with drawn := w.drawn + 1 } I := fun k hk => ⟨hk, rfl⟩
  have g' : Good E { w with drawn := w.drawn + 1 } I G a.h := ⟨fun r o h => by
    obtain ⟨k1, k2, k3, k4⟩ := g.own r o h
    refine ⟨k1, k2, k3, ?_⟩
    cases o with
    | cells t size cs => obtain ⟨us, rest, e1, e2, e3⟩ := k4; exact ⟨us, rest, e1, RL.keeps hk _ _ e2, e3⟩
    | bld => exact k4
    | pmap => exact k4
    | miter => exact k4
    | gmap => obtain ⟨ents, e1, e2⟩ := k4; exact ⟨ents, e1, RM.keeps hk _ _ e2⟩
    | iter => exact k4, g.hid, g.imm, fun g0 cs e => R1.keeps hk _ _ (g.glob g0 cs e), E.keepW _ _ _ _ hk g.inv⟩
  have r' : RS E { w with drawn := w.drawn + 1 } I a act := r.keeps hk
  have h3 := LAny.sound _ h2 g' r' (w0 := w) (I0 := I) (G0 := G) (h0 := a.h) ⟨rfl, rfl, rfl, Nat.le_refl _, fun _ _ a b => ⟨rfl, a, b⟩, fun _ h => h, fun _ _ _ _ h => h, fun _ => Nat.le_succ _⟩
  have hsz : l.toArray.size = ls.length := by rw [hlen]; simp
  rw [hsz, hlen]
  rw [hlen] at h3
  refine wpAny_mono_post ?_ _ _ _ _ h3
  rintro e act' w' ⟨b, I', G', gb, rb, sb, rfl, c, hc, k⟩
  exact ⟨c, I', G', by rw [hc.2.1]; exact gb, rb.same hc.1 hc.2.2, by rw [hc.2.1]; exact sb, k⟩
end
theorem SWO.own_let {E : Env} {ops : Array Oper} {rest : List Oper} {Q : Exit → AS → Prop} {a : AS} {h0 : Heap} (t : Nat) {e : TypeId} {sz : Nat} {xs : List (List PV)} {v : PV} (hv : a.get t = v) (hown : Own h0 e sz xs v a.h) (k : SWO E ops rest Q { a.put (some t) (.list sz xs) with h := h0 }) : SWO E ops rest Q a := by
  intro w I G act g r
  have hs := r.slot t
  rw [hv] at hs
  rcases hown with ⟨rfl, rfl, hh⟩ | ⟨r0, cap, rfl, hle, hcm, h0r, hh, hwd⟩
  · have hs := R_val hs
    have r' := r.set t (.list sz []) (by rw [hs]; show R1 w I _ _; simp only [R1]; exact ⟨none, 0, [], rfl, Nat.le_refl _, by simp [maxLen], by simp [RE], fun h => absurd rfl h⟩) h0
    have := k w I G act (by show Good E w I G h0; rw [← hh]; exact g) r'
    simp only at this
    rw [hh]
    exact this
  · have hs := R_val hs
    have hr0 : a.h r0 = some (.cells e (cap * sz) xs.flatten) := by rw [hh]; exact Heap.put_same _ _ _
    obtain ⟨g', s⟩ := g.let_go hr0 rfl
    obtain ⟨_, _, _, us, rs, hcell, hrl, hsz⟩ := g.own _ _ hr0
    have hk := s.keeps g
    have hdel : a.h.del r0 = h0 := by rw [hh, Heap.del_put _ _ _ h0r]
    rw [hdel] at g' s
    have r' := (r.keeps hk).set t (.list sz xs) (by
      rw [hs]
      exact R1_row hcell (.inr rfl) (RE_of_flat hwd (RL.keeps hk _ _ hrl)) rfl hle hcm) h0
    exact SWO.on k s g' r'
end Go.Proofs.YtincpomenogppaaGreatDoor.Lift

namespace Go.Proofs.YtincpomenogppaaGreatDoor.Lift
open Go
section
variable {H : Type} {enc : TypeId × Value → H} {P : Program} {w : World} {base : Nat} {sp : Nat → Bool} {held : Bool} {t e : TypeId} {n fuel : Nat} {cs : List Value} {p : List MemPlace}

theorem trod_arr1 {ds : List (DataW H)} (ht : P.underlying t = some (.array n e)) (hc : P.cellsOf e = 1) (hct : P.cellsOf t = n) (hd : DataW.trod enc P w base sp held fuel t cs = some (.agg ds, p)) :
    cs.length = n ∧ ds.length = n ∧ ∀ i, i < n → ∃ m q u d, cs[i]? = some u ∧ ds[i]? = some d ∧ DataW.trod enc P w base sp held m e [u] = some (d, q) := by
  obtain ⟨ys, m, rfl, hx, hl, hyl, hall⟩ := DataW.trod_array ht hd
  have hds : ds = ys.map (·.1) := by injection hx with hx _; injection hx
  subst hds
  refine ⟨by rw [hl, hct], by rw [List.length_map, hyl], fun i hi => ?_⟩
  have h1 := hall i hi
  rw [hc, Nat.mul_one] at h1
  have hic : i < cs.length := by omega
  have e1 : ((cs.drop i).take 1) = [cs[i]] := by
    rw [List.drop_eq_getElem_cons hic]
    rfl
  have hiy : i < ys.length := by omega
  rw [e1, List.getElem?_eq_getElem hiy] at h1
  exact ⟨m, ys[i].2, cs[i], ys[i].1, List.getElem?_eq_getElem hic, by rw [List.getElem?_map, List.getElem?_eq_getElem hiy]; rfl, h1⟩
theorem laid_ints {q : IntKind} (zs : List Int) (ht : P.underlying t = some (.array n e)) (he : P.underlying e = some (.int q)) (hc : P.cellsOf e = 1) (hct : P.cellsOf t = n)
    (hd : DataW.trod enc P w base sp held fuel t cs = some (.agg (zs.map fun z => .lit (.int q z)), p)) : cs = zs.map (Value.int q) := by
  obtain ⟨h1, h2, h3⟩ := trod_arr1 ht hc hct hd
  rw [List.length_map] at h2
  apply List.ext_getElem?
  intro i
  by_cases hi : i < n
  · obtain ⟨m, p', u, d, e1, e2, e3⟩ := h3 i hi
    obtain ⟨a, ea, eb, _⟩ := DataW.trod_int he e3
    injection ea with ea _
    injection eb with eb _
    have hz : i < zs.length := by omega
    rw [List.getElem?_map, List.getElem?_eq_getElem hz, Option.map_some] at e2
    injection e2 with e2
    rw [eb] at e2
    have e4 : zs[i] = a := by injection e2 with e2; injection e2
    rw [e1, List.getElem?_map, List.getElem?_eq_getElem hz, Option.map_some, ea, e4]
  · rw [List.getElem?_eq_none (by omega), List.getElem?_eq_none (by rw [List.length_map]; omega)]
theorem RL_ints (w : World) (I : Nat → Prop) (k : IntKind) : ∀ zs : List Int, RL w I (zs.map (PV.int k)) (zs.map (Value.int k))
  | [] => rfl
  | z :: zs => ⟨_, _, rfl, rfl, RL_ints w I k zs⟩
theorem var_block {name : String} {g : Nat} {cs : Array Value} (hg : P.globalNamed name = some g) (hv : w.var? P name = some cs) : ∃ t fr, w.heap[g]? = some (.cells cs t fr) := by
  unfold World.var? at hv
  rw [hg, Option.bind_some] at hv
  split at hv
  · rename_i us t fr hh
    injection hv with hv
    exact ⟨t, fr, by rw [hh, hv]⟩
  · cases hv
end
section
variable {E : Env}
theorem Good.drew {w : World} {I : Nat → Prop} {G : Nat → Option Nat} {h : Heap} (g : Good E w I G h) (w' : World) (hw : w'.heap = w.heap) : Good E w' I G h := by
  have hk : Keeps w I w' I := fun k hk => ⟨hk, by rw [hw]⟩
  refine ⟨fun r o h => ?_, fun k r h => ?_, fun k h => by rw [hw]; exact g.imm k h, fun g0 cs e => R1.keeps hk _ _ (g.glob g0 cs e), E.keepW _ _ _ _ hk g.inv⟩
  · obtain ⟨k1, k2, k3, k4⟩ := g.own r o h
    refine ⟨by rw [hw]; exact k1, k2, k3, ?_⟩
    cases o with
    | cells t size cs => obtain ⟨us, rest, e1, e2, e3⟩ := k4; exact ⟨us, rest, by rw [hw]; exact e1, RL.keeps hk _ _ e2, e3⟩
    | bld => unfold RObj at k4 ⊢; rw [hw]; exact k4
    | iter => unfold RObj at k4 ⊢; rw [hw]; exact k4
    | pmap => unfold RObj at k4 ⊢; rw [hw]; exact k4
    | miter => unfold RObj at k4 ⊢; rw [hw]; exact k4
    | gmap => obtain ⟨ents, e1, e2⟩ := k4; exact ⟨ents, by rw [hw]; exact e1, RM.keeps hk _ _ e2⟩
  · rw [hw]; exact g.hid k r h
end
end Go.Proofs.YtincpomenogppaaGreatDoor.Lift

namespace Go.Proofs.YtincpomenogppaaGreatDoor.Lift
open Go Go.RowKit
section
variable {E : Env}

def LetGo (E : Env) (H : Heap) (v : PV) (h0 : Heap) (v2 : PV) : Prop := ∀ w I G, Good E w I G H → ∃ I' G', Good E w I' G' h0 ∧ Stp E.mono w I G H w I' G' h0 ∧ Keeps w I w I' ∧ ∀ u, R w I v u → R w I' v2 u
theorem LetGo.refl (H : Heap) (v : PV) : LetGo E H v H v := fun _ I G g => ⟨I, G, g, .refl .., fun _ h => ⟨h, rfl⟩, fun _ h => h⟩
theorem LetGo.trans {H1 H2 H3 : Heap} {v1 v2 v3 : PV} (a : LetGo E H1 v1 H2 v2) (b : LetGo E H2 v2 H3 v3) : LetGo E H1 v1 H3 v3 := fun w I G g => by
  obtain ⟨I1, G1, g1, s1, k1, r1⟩ := a w I G g
  obtain ⟨I2, G2, g2, s2, k2, r2⟩ := b w I1 G1 g1
  exact ⟨I2, G2, g2, s1.trans s2, fun k h => ⟨(k2 k (k1 k h).1).1, rfl⟩, fun u h => r2 u (r1 u h)⟩
theorem Own.letGo1 {h0 H : Heap} {e : TypeId} {sz : Nat} {xs : List (List PV)} {v : PV} (hown : Own h0 e sz xs v H) {w : World} {I : Nat → Prop} {G : Nat → Option Nat} (g : Good E w I G H) :
    ∃ I' G', Good E w I' G' h0 ∧ Stp E.mono w I G H w I' G' h0 ∧ Keeps w I w I' ∧ ∀ u, R1 w I v u → R1 w I' (.list sz xs) u := by
  rcases hown with ⟨rfl, rfl, hh⟩ | ⟨r0, cap, rfl, hle, hcm, h0r, hh, hwd⟩
  · subst hh
    refine ⟨I, G, g, .refl .., fun _ h => ⟨h, rfl⟩, fun u hu => ?_⟩
    obtain ⟨rfl, _⟩ : u = _ ∧ _ := hu
    simp only [R1]
    exact ⟨none, 0, [], rfl, Nat.le_refl _, by simp [maxLen], by simp [RE], fun h => absurd rfl h⟩
  · have hr0 : H r0 = some (.cells e (cap * sz) xs.flatten) := by rw [hh]; exact Heap.put_same _ _ _
    obtain ⟨g', s⟩ := g.let_go hr0 rfl
    obtain ⟨_, _, _, us, rs, hcell, hrl, hsz⟩ := g.own _ _ hr0
    have hk := s.keeps g
    have hdel : H.del r0 = h0 := by rw [hh, Heap.del_put _ _ _ h0r]
    rw [hdel] at g' s
    refine ⟨_, G, g', s, hk, fun u hu => ?_⟩
    obtain ⟨rfl, _⟩ : u = _ ∧ _ := hu
    exact R1_row hcell (.inr rfl) (RE_of_flat hwd (RL.keeps hk _ _ hrl)) rfl hle hcm
theorem OwnC.letGo1 {h0 H : Heap} {e : TypeId} {sz : Nat} {xs : List (List PV)} {v : PV} (hown : OwnC h0 e sz xs v H) {w : World} {I : Nat → Prop} {G : Nat → Option Nat} (g : Good E w I G H) :
    ∃ I' G', Good E w I' G' h0 ∧ Stp E.mono w I G H w I' G' h0 ∧ Keeps w I w I' ∧ ∀ u, R1 w I v u → R1 w I' (.list sz xs) u := by
  rcases hown with ⟨rfl, rfl, hh⟩ | hown
  · subst hh
    refine ⟨I, G, g, .refl .., fun _ h => ⟨h, rfl⟩, fun u hu => ?_⟩
    simp only [R1] at hu ⊢
    obtain ⟨A, rfl⟩ := hu
    exact ⟨A, 0, [], rfl, Nat.le_refl _, by simp [maxLen], by simp [RE], fun h => absurd rfl h⟩
  · exact hown.letGo1 g
theorem RL.swap {w : World} {I I' : Nat → Prop} (hk : Keeps w I w I') {v v' : PV} (hv : ∀ u, R1 w I v u → R1 w I' v' u) : ∀ (xs ys : List PV) (us : List Value), RL w I (xs ++ v :: ys) us → RL w I' (xs ++ v' :: ys) us
  | [], ys, us, h => by
    obtain ⟨u, us', rfl, h1, h2⟩ := h
    exact ⟨u, us', rfl, hv u h1, RL.keeps hk _ _ h2⟩
  | x :: xs, ys, us, h => by
    obtain ⟨u, us', rfl, h1, h2⟩ := h
    exact ⟨u, us', rfl, R1.keeps hk _ _ h1, RL.swap hk hv xs ys us' h2⟩
theorem R0s.keeps' {w : World} {I I' : Nat → Prop} (hk : Keeps w I w I') : ∀ (xs : List PV) (us : List Value), R0s w I xs us → R0s w I' xs us
  | [], _, h => h
  | x :: xs, us, h => by
    obtain ⟨u, us', rfl, h1, h2⟩ := h
    exact ⟨u, us', rfl, R0.keeps hk _ _ h1, R0s.keeps' hk xs us' h2⟩
theorem Own.letGo {h0 H : Heap} {e : TypeId} {sz : Nat} {xs : List (List PV)} {v : PV} (hown : Own h0 e sz xs v H) (pre post rest : List PV) :
    LetGo E H (.tuple (.agg (pre ++ v :: post) :: rest)) h0 (.tuple (.agg (pre ++ .list sz xs :: post) :: rest)) := fun w I G g => by
  obtain ⟨I', G', g', s, hk, hr⟩ := hown.letGo1 g
  refine ⟨I', G', g', s, hk, fun u hu => ?_⟩
  obtain ⟨us, rfl, hu⟩ : ∃ us : List Value, u = .tuple us.toArray ∧ R0s w I (.agg (pre ++ v :: post) :: rest) us := hu
  obtain ⟨u1, us', rfl, h1, h2⟩ := hu
  obtain ⟨cs, rfl, h1⟩ : ∃ cs : List Value, u1 = .agg cs.toArray ∧ RL w I (pre ++ v :: post) cs := h1
  refine ⟨_, rfl, _, us', rfl, ⟨cs, rfl, RL.swap hk hr _ _ _ h1⟩, R0s.keeps' hk _ _ h2⟩
theorem OwnC.letGo {h0 H : Heap} {e : TypeId} {sz : Nat} {xs : List (List PV)} {v : PV} (hown : OwnC h0 e sz xs v H) (pre post rest : List PV) :
    LetGo E H (.tuple (.agg (pre ++ v :: post) :: rest)) h0 (.tuple (.agg (pre ++ .list sz xs :: post) :: rest)) := fun w I G g => by
  obtain ⟨I', G', g', s, hk, hr⟩ := hown.letGo1 g
  refine ⟨I', G', g', s, hk, fun u hu => ?_⟩
  obtain ⟨us, rfl, hu⟩ : ∃ us : List Value, u = .tuple us.toArray ∧ R0s w I (.agg (pre ++ v :: post) :: rest) us := hu
  obtain ⟨u1, us', rfl, h1, h2⟩ := hu
  obtain ⟨cs, rfl, h1⟩ : ∃ cs : List Value, u1 = .agg cs.toArray ∧ RL w I (pre ++ v :: post) cs := h1
  refine ⟨_, rfl, _, us', rfl, ⟨cs, rfl, RL.swap hk hr _ _ _ h1⟩, R0s.keeps' hk _ _ h2⟩
theorem SCalls.letGo {f : FuncId} {args : List PV} {h : Heap} {Q Q' : SEnd → Heap → Prop} (hc : SCalls E f args h Q) (hq : ∀ e h', Q e h' → ∃ v v2 h2, e = .ret v ∧ LetGo E h' v h2 v2 ∧ Q' (.ret v2) h2) : SCalls E f args h Q' :=
  ⟨hc.1, fun w I G vs g r => (hc.2 w I G vs g r).mono fun e w' ⟨I', G', h', g', s, q⟩ => by
    cases e with
    | returned u =>
      obtain ⟨p, hp, q⟩ := q
      obtain ⟨v, v2, h2, e1, hl, q2⟩ := hq _ _ q
      injection e1 with e1
      subst e1
      obtain ⟨I2, G2, g2, s2, k2, r2⟩ := hl w' I' G' g'
      exact ⟨I2, G2, h2, g2, s.trans s2, v2, r2 u hp, q2⟩
    | panicked c =>
      obtain ⟨v, v2, h2, e1, _⟩ := hq _ _ q
      cases e1
    | outgrown => exact ⟨I', G', h', g', s, q⟩⟩
end
end Go.Proofs.YtincpomenogppaaGreatDoor.Lift

namespace Go.Proofs.YtincpomenogppaaGreatDoor.Lift
open Go Go.RowKit
section
variable {E : Env}
theorem SWO.makeMap {ops : Array Oper} {o : Oper} {rest : List Oper} {Q : Exit → AS → Prop} {a : AS} (t : TypeId) (hop : o.op = .makeMap t none) (hg : wantedA ops a o = some true) (hd : okDst a.n o.dst = true)
    (k : ∀ r, a.h r = none → SWO E ops rest Q { a.put o.dst (.val (.map (some r))) with h := a.h.put r (.pmap []) }) : SWO E ops (o :: rest) Q a := by
  refine SWO.to hg hd fun w I G act g r => ?_
  have hob : RObj (w.alloc (.map #[] 0)) I G w.heap.size (.pmap []) := by
    show (w.alloc (.map #[] 0)).heap[w.heap.size]? = some (pairMap [])
    rw [heap_alloc_at]
    rfl
  obtain ⟨g', s⟩ := g.alloc_own' _ hob
  refine ⟨_, .map (some w.heap.size), _, I, G, _, .val (.map (some w.heap.size)), ?_, .inl rfl, g', s, ⟨rfl, rfl⟩, k _ g.fresh⟩
  simp only [execOp, hop, Instr.makeMap, Sem.run_bind, Option.map_none]
  rfl
end
end Go.Proofs.YtincpomenogppaaGreatDoor.Lift

namespace Go.Proofs.YtincpomenogppaaGreatDoor.Lift
open Go Go.RowKit
variable {E : Env}
end Go.Proofs.YtincpomenogppaaGreatDoor.Lift
