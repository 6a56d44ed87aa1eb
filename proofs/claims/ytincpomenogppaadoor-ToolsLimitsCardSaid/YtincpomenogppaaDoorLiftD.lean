/- Panics, and calls that wait at a function's door. -/
import Derived.Test.YtincpomenogppaaDoorLiftW
import Derived.Defers
import Derived.Recover
import Derived.Maps.RangeRun
import Derived.Scope
import Derived.Test.YtincpomenogppaaDoorLiftQ
import Derived.OpenShut
import Derived.DataElems
set_option linter.unusedSimpArgs false
set_option linter.unusedVariables false
namespace Go.Proofs.YtincpomenogppaaDoor.Lift
open Go Go.RowKit
variable {E : Env}
/-- The same program, in a function at whose door calls wait. -/
def Env.withD (E : Env) (D : List Deferred) : Env := { E with D := D }
theorem withD_ty (D : List Deferred) (t : TypeId) : (E.withD D).ty t = E.ty t := by
  have h : (E.withD D).tab = E.tab := rfl
  unfold Env.ty
  rw [h]
theorem withD_gl (D : List Deferred) : (E.withD D).gl = E.gl := by
  have h : (E.withD D).gl = E.gl := rfl
  rw [h]
theorem withD_P (D : List Deferred) : (E.withD D).P = E.P := by
  have h : (E.withD D).P = E.P := rfl
  rw [h]
variable {w w' : World} {I I' : Nat → Prop} {G G' : Nat → Option Nat} {h h' : Heap} {D : List Deferred}
theorem Good.withD (g : Good E w I G h) (D : List Deferred) : Good (E.withD D) w I G h := ⟨g.own, g.hid, g.imm, g.glob, g.inv⟩
theorem Good.noD (g : Good (E.withD D) w I G h) : Good E w I G h := ⟨g.own, g.hid, g.imm, g.glob, g.inv⟩
theorem SCalls.withD {f : FuncId} {args : List PV} {Q : SEnd → Heap → Prop} (hc : SCalls E f args h Q) (D : List Deferred) : SCalls (E.withD D) f args h Q :=
  ⟨hc.1, fun w I G vs g r => (hc.2 w I G vs g.noD r).mono fun _ _ ⟨I', G', h', g', s, q⟩ => ⟨I', G', h', g'.withD D, s, q⟩⟩
theorem XCalls.withD {f : FuncId} {args : List PV} {v : PV} (hc : XCalls E f args h v) (D : List Deferred) : XCalls (E.withD D) f args h v :=
  fun w I G vs g r => hc w I G vs g.noD r
theorem FCalls.withD {f : FuncId} {args : List PV} {v : PV} (hc : FCalls E f args h v) (D : List Deferred) : FCalls (E.withD D) f args h v := by
  exact hc.imp (fun c => c.withD D) (fun c => c.withD D)
/-- A contract, in such a function. -/
def SpecE.withD (s : SpecE E) (D : List Deferred) : SpecE (E.withD D) := ⟨s.f, s.s, fun args h hc => (s.ok args h hc).withD D⟩
def SpecH.withD (s : SpecH E) (D : List Deferred) : SpecH (E.withD D) := ⟨s.f, s.s, fun args h hc => (s.ok args h hc).withD D⟩
/-- A panic with two numbers. -/
theorem SWO.panic2 {ops : Array Oper} {o : Oper} {rest : List Oper} {Q : Exit → AS → Prop} {a : AS} (x : Operand) (hop : o.op = .panic x) {t : TypeId} {k1 k2 : IntKind} {n1 n2 : Int} (hx : a.eval E x = .iface t true [.int k1 n1, .int k2 n2]) (hg : wantedA ops a o = some true)
    (q : Q (.panic [{ v := .iface t (.agg #[.int k1 n1, .int k2 n2]), recovered := false }]) a) : SWO E ops (o :: rest) Q a := by
  intro w I G act g r
  have h1 := r.eval g x
  rw [hx] at h1
  obtain ⟨us, e1, u1, us1, rfl, hu1, u2, us2, rfl, hu2, hn⟩ := h1
  obtain rfl : us2 = [] := hn
  obtain rfl : u1 = .int k1 n1 := hu1
  obtain rfl : u2 = .int k2 n2 := hu2
  unfold wpList
  rw [if_pos (r.wanted hg)]
  refine .inl ?_
  unfold Oper.wp
  have hrun : (execOp act.eval o).run E.P w = .halt (.panic (.iface t (.agg #[.int k1 n1, .int k2 n2]))) w := by
    simp only [execOp, hop, e1, Instr.panic, ofCells, if_true]
    rfl
  rw [hrun, Oper.upon_panic]
  exact ⟨a, I, G, g, r, .refl .., q⟩
/-- What a call that waits at the door does, in a function that leaves so. -/
def DRuns (E : Env) (f : FuncId) (args : Array Value) (u u' : FrameMode) (h h' : Heap) : Prop :=
  ∀ w I G, Good E w I G h → CallsD E.P f args u w fun e u1 w' => e = .returned (.tuple #[]) ∧ u1 = u' ∧ ∃ I' G', Good E w' I' G' h' ∧ Stp E.mono w I G h w' I' G' h'
/-- What must hold behind the body of a function at whose door one call waits, which catches a panic. -/
def DPost (E : Env) (f : FuncId) (args : Array Value) (rs : List ResultVar) (Q : SEnd → Heap → Prop) : Exit → AS → Prop
  | .normal, a => DRuns E f args .returning .returning a.h a.h ∧ ∃ p, sres E a rs = some p ∧ ∃ h', HTo E a.h h' ∧ Q (.ret p) h'
  | .ret, a => DRuns E f args .returning .returning a.h a.h ∧ ∃ p, sres E a rs = some p ∧ ∃ h', HTo E a.h h' ∧ Q (.ret p) h'
  | .panic c, a => ∃ v h2, c = [{ v, recovered := false }] ∧ DRuns E f args (.panicking [{ v, recovered := false }]) (.panicking [{ v, recovered := true }]) a.h h2 ∧ ∃ p, sres E { a with h := h2 } rs = some p ∧ ∃ h', HTo E h2 h' ∧ Q (.ret p) h'
  | _, _ => False
theorem sres1_withD (a : AS) (r : ResultVar) : sres1 (E.withD D) a r = sres1 E a r := by
  cases r <;> rfl
theorem sresL_withD (a : AS) : ∀ rs, sresL (E.withD D) a rs = sresL E a rs
  | [] => rfl
  | r :: rs => by
    simp only [sresL]
    rw [sres1_withD, sresL_withD a rs]
theorem sres_withD (D : List Deferred) (a : AS) (rs : List ResultVar) : sres (E.withD D) a rs = sres E a rs := by
  unfold sres
  rw [sresL_withD]
theorem run_enter {P : Program} {fd : FuncId} {fnd : Func} {cd : Code} (hfd : P.funcs[fd]? = some fnd) (hbd : fnd.body = some cd) (hnd : (fnd.name == "runtime.NumGoroutine") = false) (caps : Array Value) (w : World) :
    (invoke (.fn (.func fd) caps) #[]).run P w = .ok (.enter fd caps) w := by
  have hne : fnd.name ≠ "runtime.NumGoroutine" := by simpa using hnd
  have e : (#[] ++ caps : Array Value) = caps := by apply Array.ext'; simp
  simp [invoke, callFunc, hfd, hbd, hne]
theorem leave1 {fd : FuncId} {fn fnd : Func} {cd : Code} {caps : Array Value} {R : Ending → World → Prop} {u u' : FrameMode} {h h2 : Heap} {tmps : Array Value} (hfd : E.P.funcs[fd]? = some fnd) (hbd : fnd.body = some cd) (hnd : (fnd.name == "runtime.NumGoroutine") = false) (hu : u ≠ .run)
    (hd : DRuns E fd caps u u' h h2) (hset : settle u' = .returning) (g : Good E w I G h)
    (k : ∀ w' I' G', Good E w' I' G' h2 → Stp E.mono w I G h w' I' G' h2 → ∃ v, (results fn tmps).run E.P w' = .ok v w' ∧ R (.returned v) w') : Leaves E.P fn tmps R [{ target := .fn (.func fd) caps, args := #[] }] u w := by
  refine leaves_cons hu (run_enter hfd hbd hnd caps w) ((hd w I G g).mono ?_)
  rintro e u1 w' ⟨rfl, rfl, I', G', g', s⟩
  show Leaves E.P fn tmps R [] (settle u1) w'
  rw [hset]
  exact k w' I' G' g' s
theorem SCalls.bodyDefer {f fd : FuncId} {fn fnd : Func} {c1 cd : Code} {id : Nat} {ops : Array Oper} {l1 : List Oper} {o : Oper} {c2 : Code} {x : Operand} {ts : Array TypeId} {args : List PV} {Q : SEnd → Heap → Prop}
    (hf : E.P.funcs[f]? = some fn) (hb : fn.body = some (.seq c1 (.seq (.region id ops false) c2))) (hn : (fn.name == "runtime.NumGoroutine") = false) (hl : args.length ≤ fn.ntmps)
    (hfd : E.P.funcs[fd]? = some fnd) (hbd : fnd.body = some cd) (hnd : (fnd.name == "runtime.NumGoroutine") = false) (hops : ops.toList = l1 ++ [o]) (hop : o.op = .defer { callee := .value x, args := #[], argTypes := ts })
    (k : SW E c1 (thenQ (SWO E ops l1 (fun e a => e = .normal ∧ ∃ caps, a.eval E x = .val (.func (.func fd) #[] caps) ∧ wantedA ops a o = some true ∧ okDst a.n o.dst = true ∧
      SW (E.withD [{ target := .fn (.func fd) caps, args := #[] }]) c2 (DPost E fd caps fn.results.toList Q) (a.put o.dst (.tuple [])))) (fun _ _ => False)) ⟨fn.ntmps, enumA 0 args, h⟩) (hD : E.D = [] := by rfl) : SCalls E f args h Q := by
  refine ⟨⟨fn, _, hf, hb, hn⟩, fun w I G vs g r => ?_⟩
  refine calls_of_wp_defers hf hb ?_
  refine wp_seq ?_
  have h0 := k w I G _ g (RS.init hD r hl)
  refine wp_mono h0 ?_
  rintro e0 act0 w0 ⟨a0, I0, G0, g0, r0, s0, q0⟩
  cases e0 with
  | exit id => exact q0.elim
  | goto l => exact q0.elim
  | ret => exact q0.elim
  | panic c => exact q0.elim
  | outgrown => exact q0.elim
  | normal =>
  refine wp_seq ?_
  have hol : ops = (l1 ++ [o]).toArray := by apply Array.ext'; rw [hops]
  have h1 := q0 w0 I0 G0 act0 g0 r0
  rw [hol] at h1 ⊢
  refine wp_region_lit (wpList_append ?_ ?_ l1 _ w0 h1)
  · rintro act w1 ⟨a, I1, G1, g1, r1, s1, _, caps, hx, hw, hd, hc2⟩
    have hx' := r1.eval g1 x
    rw [hx] at hx'
    have hx' := R_val hx'
    unfold wpList
    rw [if_pos (r1.wanted hw)]
    refine .inl ?_
    unfold Oper.wp
    have hrun : (execOp act.eval o).run E.P w1 = .ok (.defer { target := .fn (.func fd) caps, args := #[] }) w1 := by
      have e : (#[] ++ caps : Array Value) = caps := by apply Array.ext'; simp
      simp [execOp, hop, resolve, hx', Deferred.ofValue]
    rw [hrun, Oper.upon_defer]
    refine wpList_nil ?_
    show c2.wp E.P _ _ w1
    have r2 : RS (E.withD [{ target := .fn (.func fd) caps, args := #[] }]) w1 I1 (a.put o.dst (.tuple [])) ({ act with defers := { target := .fn (.func fd) caps, args := #[] } :: act.defers }.put o.dst undef) := by
      refine RS.put (E := E.withD [{ target := .fn (.func fd) caps, args := #[] }]) (a := a) (act := { act with defers := { target := .fn (.func fd) caps, args := #[] } :: act.defers }) (v := .tuple []) (u := undef) ⟨?_, r1.size, r1.slot⟩ hd ⟨[], rfl, rfl⟩
      show _ :: act.defers = _
      rw [r1.defers, hD]
      rfl
    have h2 := hc2 w1 I1 G1 _ (by rw [put_h]; exact g1.withD _) r2
    refine wp_mono h2 ?_
    rw [put_h]
    rintro e act' w' ⟨a', I', G', g', r', s', q⟩
    have hres : ∀ (h2 : Heap) (u u' : FrameMode) (p : PV) (h3 : Heap), u ≠ .run → settle u' = .returning → DRuns E fd caps u u' a'.h h2 → sres E { a' with h := h2 } fn.results.toList = some p → HTo E h2 h3 → Q (.ret p) h3 →
        Leaves E.P fn act'.tmps (CPost E w I G h Q) act'.defers u w' := by
      intro h2 u u' p h3 hu hset hdr hp hto hq
      have hdef : act'.defers = [{ target := .fn (.func fd) caps, args := #[] }] := r'.defers
      rw [hdef]
      refine leave1 hfd hbd hnd hu hdr hset g'.noD fun w3 I3 G3 g3 s3 => ?_
      have rr : RS (E.withD [{ target := .fn (.func fd) caps, args := #[] }]) w3 I3 { a' with h := h2 } act' := by
        have := r'.keeps (s3.keeps g'.noD)
        exact ⟨this.defers, this.size, this.slot⟩
      obtain ⟨u, hu, hr⟩ := sres_run (E := E.withD [{ target := .fn (.func fd) caps, args := #[] }]) (a := { a' with h := h2 }) (g3.withD _) rr (by have : sres (E.withD [{ target := .fn (.func fd) caps, args := #[] }]) { a' with h := h2 } fn.results.toList = sres E { a' with h := h2 } fn.results.toList := sres_withD _ _ _; rw [this]; exact hp)
      obtain ⟨I4, G4, g4, s4⟩ := hto _ _ _ g3
      exact ⟨u, hu, I4, G4, h3, g4, (((s0.trans s1).trans s').trans s3).trans s4, p, R.keeps (s4.keeps g3) _ _ hr, hq⟩
    cases e with
    | normal =>
      obtain ⟨hdr, p, hp, h3, hto, hq⟩ := q
      exact hres a'.h .returning .returning p h3 (fun e => by cases e) rfl hdr hp hto hq
    | ret =>
      obtain ⟨hdr, p, hp, h3, hto, hq⟩ := q
      exact hres a'.h .returning .returning p h3 (fun e => by cases e) rfl hdr hp hto hq
    | panic c =>
      obtain ⟨v, h2, rfl, hdr, p, hp, h3, hto, hq⟩ := q
      exact hres h2 _ _ p h3 (fun e => by cases e) rfl hdr hp hto hq
    | exit id => exact q.elim
    | goto l => exact q.elim
    | outgrown => exact q.elim
  · rintro e act w1 hne ⟨a, I1, G1, g1, r1, s1, he, _⟩
    exact absurd he hne
/-- A call that waits at the door and asks whether there is a panic. -/
theorem DRuns.recovers {fd : FuncId} {fn : Func} {id : Nat} {o0 o1 : Oper} {c2 : Code} {caps : Array Value} {ts : Array TypeId} {d0 d1 : Nat} {u u' : FrameMode} {x : PV} {vx : Value} {h h2 : Heap}
    (hf : E.P.funcs[fd]? = some fn) (hb : fn.body = some (.seq (.region id #[o0, o1] false) c2)) (hl : caps.toList.length ≤ fn.ntmps) (hres : fn.results = #[]) (hcaps : caps.toList.all okRaw = true)
    (h0 : o0.op = .call { callee := .builtin .recover, args := #[], argTypes := ts }) (hd0 : o0.dst = some d0) (hg0 : o0.guard = none) (h1 : o1.op = .assign (.tmp d0)) (hd1 : o1.dst = some d1) (hg1 : o1.guard = none) (hn0 : d0 < fn.ntmps) (hn1 : d1 < fn.ntmps)
    (hx : ∀ w I, R w I x vx) (hcase : (u = .returning ∧ u' = .returning ∧ vx = .nilIface) ∨ (u = .panicking [{ v := vx, recovered := false }] ∧ u' = .panicking [{ v := vx, recovered := true }]))
    (k : SW E c2 (fun e a => (e = .normal ∨ e = .ret) ∧ HTo E a.h h2) (((⟨fn.ntmps, enumA 0 (caps.toList.map ofVal), h⟩ : AS).put (some d0) x).put (some d1) x)) (hD : E.D = [] := by rfl) : DRuns E fd caps u u' h h2 := by
  intro w I G g
  refine callsD_of_wpS hf hb fun c₀ cs hm => ?_
  have hr := RS.init (E := E) hD (R0s_raw w I caps.toList hcaps) (h := h) (n := fn.ntmps) (by simpa using hl)
  have e1 : caps.toList.toArray = caps := by simp
  rw [e1] at hr
  have hr2 : RS E w I (((⟨fn.ntmps, enumA 0 (caps.toList.map ofVal), h⟩ : AS).put (some d0) x).put (some d1) x) (({ tmps := caps ++ Array.replicate (fn.ntmps - caps.size) undef, defers := [] } : Act).put (some d0) vx |>.put (some d1) vx) :=
    (hr.put (dst := some d0) (decide_eq_true hn0) (hx w I)).put (dst := some d1) (decide_eq_true hn1) (hx w I)
  have hk := k w I G _ (by rw [put_h, put_h]; exact g) hr2
  have hslot : (({ tmps := caps ++ Array.replicate (fn.ntmps - caps.size) undef, defers := [] } : Act).put (some d0) vx).eval (.tmp d0) = vx := by
    have hsz : d0 < (caps ++ Array.replicate (fn.ntmps - caps.size) undef).size := by
      have := hr.size
      have e : (caps ++ Array.replicate (fn.ntmps - caps.size) undef).size = fn.ntmps := this
      rw [e]; exact hn0
    show ((caps ++ Array.replicate (fn.ntmps - caps.size) undef).setIfInBounds d0 vx).getD d0 undef = vx
    rw [Array.getD_eq_getD_getElem?, Array.getElem?_setIfInBounds, if_pos rfl, if_pos hsz]
    rfl
  have hw : ∀ (o : Oper) tmps, o.guard = none → Region.wanted o (yielded #[o0, o1] tmps) = true := fun o tmps hg => by unfold Region.wanted; rw [hg]
  have hrec : (execOp ({ tmps := caps ++ Array.replicate (fn.ntmps - caps.size) undef, defers := [] } : Act).eval o0).run E.P w = .ok .recover w := by
    simp [execOp, h0, resolve, invoke, builtin]
  have fin : ∀ cs', (∃ u1, cs' = { c₀ with mode := u1 } :: cs ∧ u1 = u') →
      wpOpsS E.P #[o0, o1] (Exit.thenS (c2.wpS E.P (bodyPostS E.P fn c₀ cs fun e u1 w' => e = .returned (.tuple #[]) ∧ u1 = u' ∧ ∃ I' G', Good E w' I' G' h2 ∧ Stp E.mono w I G h w' I' G' h2)) (bodyPostS E.P fn c₀ cs fun e u1 w' => e = .returned (.tuple #[]) ∧ u1 = u' ∧ ∃ I' G', Good E w' I' G' h2 ∧ Stp E.mono w I G h w' I' G' h2)) [1]
        (({ tmps := caps ++ Array.replicate (fn.ntmps - caps.size) undef, defers := [] } : Act).put o0.dst vx) cs' w := by
    rintro cs' ⟨u1, rfl, rfl⟩
    unfold wpOpsS
    simp only [List.getElem?_toArray, List.getElem?_cons_succ, List.getElem?_cons_zero, hw _ _ hg1, if_true]
    have hasg : (execOp (({ tmps := caps ++ Array.replicate (fn.ntmps - caps.size) undef, defers := [] } : Act).put o0.dst vx).eval o1).run E.P w = .ok (.value vx) w := by
      rw [hd0]
      have := hslot
      simp only [execOp, h1, Sem.run_pure, this]
    simp only [hasg]
    show c2.wpS E.P _ _ _ w
    refine wpS_of_wp ?_
    rw [hd0, hd1]
    refine wp_mono hk ?_
    rw [put_h, put_h]
    rintro e act' w' ⟨a', I', G', g', r', s', he, hto⟩
    obtain ⟨I2, G2, g2, s2⟩ := hto _ _ _ g'
    have hdef : act'.defers = [] := r'.defers.trans hD
    have hrs : (results fn act'.tmps).run E.P w' = .ok (.tuple #[]) w' := by
      simp [results, hres]
    rcases he with rfl | rfl
    · exact ⟨hdef, u1, rfl, _, hrs, rfl, rfl, I2, G2, g2, s'.trans s2⟩
    · exact ⟨hdef, u1, rfl, _, hrs, rfl, rfl, I2, G2, g2, s'.trans s2⟩
  refine wpS_seq (wpS_region ?_)
  show wpOpsS E.P #[o0, o1] _ [0, 1] _ _ w
  unfold wpOpsS
  simp only [List.getElem?_toArray, List.getElem?_cons_zero, hw _ _ hg0, if_true, hrec]
  rcases hcase with ⟨rfl, rfl, rfl⟩ | ⟨rfl, rfl⟩
  · have e : recoverD (c₀ :: cs) = none := by
      unfold recoverD
      simp only [hm]
    rw [e]
    refine fin (c₀ :: cs) ⟨_, ?_, rfl⟩
    rw [← hm]
  · have e : recoverD (c₀ :: cs) = some (vx, { c₀ with mode := .panicking [{ v := vx, recovered := true }] } :: cs) := by
      unfold recoverD
      simp only [hm]
    rw [e]
    exact fin _ ⟨_, rfl, rfl⟩
end Go.Proofs.YtincpomenogppaaDoor.Lift

namespace Go.Proofs.YtincpomenogppaaDoor.Lift
open Go Go.RowKit
section
variable {E : Env} {w w1 w' : World} {I I1 I' : Nat → Prop} {G G1 G' : Nat → Option Nat} {h h' : Heap}

theorem eq_same : ∀ {ks : List CK} {x y : List PV} {us vs : List Value}, fits ks x = true → fits ks y = true → eqCells x y = true → RL w I x us → RL w I y vs → us = vs
  | [], [], [], _, _, _, _, _, h1, h2 => by
    have h1 : _ = [] := h1
    have h2 : _ = [] := h2
    rw [h1, h2]
  | [], _ :: _, _, _, _, h, _, _, _, _ => by cases h
  | [], [], _ :: _, _, _, _, h, _, _, _ => by cases h
  | c :: ks, [], _, _, _, h, _, _, _, _ => by cases c <;> cases h
  | c :: ks, _ :: _, [], _, _, _, h, _, _, _ => by cases c <;> cases h
  | c :: ks, x :: xs, y :: ys, us, vs, hx, hy, he, ⟨u, us', e1, r1, l1⟩, ⟨v, vs', e2, r2, l2⟩ => by
    subst e1; subst e2
    cases c with
    | int q =>
      cases x <;> simp [fits] at hx
      cases y <;> simp [fits] at hy
      simp only [eqCells, Bool.and_eq_true, beq_iff_eq] at he
      obtain rfl : u = _ := r1
      obtain rfl : v = _ := r2
      rw [eq_same hx.2 hy.2 he.2 l1 l2, he.1, ← hx.1, ← hy.1]
    | bool =>
      cases x <;> simp [fits] at hx
      cases y <;> simp [fits] at hy
      simp only [eqCells, Bool.and_eq_true, beq_iff_eq] at he
      obtain rfl : u = _ := r1
      obtain rfl : v = _ := r2
      rw [eq_same hx hy he.2 l1 l2, he.1]
    | str =>
      cases x <;> simp [fits] at hx
      cases y <;> simp [fits] at hy
      simp only [eqCells, Bool.and_eq_true, beq_iff_eq] at he
      obtain rfl : u = _ := r1
      obtain rfl : v = _ := r2
      rw [eq_same hx hy he.2 l1 l2, he.1]
theorem sameBits_one {c : CK} {x : PV} {xs : List PV} {ks : List CK} {u : Value} (hf : fits (c :: ks) (x :: xs) = true) (hr : R1 w I x u) (n : Nat) : Instr.sameBits n u u = true := by
  cases c with
  | int q =>
    cases x <;> simp [fits] at hf
    obtain rfl : u = _ := hr
    cases n <;> simp [Instr.sameBits]
  | bool =>
    cases x <;> simp [fits] at hf
    obtain rfl : u = _ := hr
    cases n <;> simp [Instr.sameBits]
  | str =>
    cases x <;> simp [fits] at hf
    obtain rfl : u = _ := hr
    cases n <;> simp [Instr.sameBits, beq_toListBytes]
theorem sameBits_all {n : Nat} : ∀ {ks : List CK} {x : List PV} {us : List Value}, fits ks x = true → RL w I x us → (us.zip us).all (fun p => Instr.sameBits n p.1 p.2) = true
  | [], [], _, _, h1 => by
    have h1 : _ = [] := h1
    rw [h1]; rfl
  | [], _ :: _, _, h, _ => by cases h
  | c :: ks, [], _, h, _ => by cases c <;> cases h
  | c :: ks, x :: xs, _, hx, ⟨u, us', e1, r1, l1⟩ => by
    subst e1
    have hx2 : fits ks xs = true := by
      cases c <;> cases x <;> simp [fits] at hx ⊢ <;> first | exact hx | exact hx.2
    simp only [List.zip_cons_cons, List.all_cons, Bool.and_eq_true]
    exact ⟨sameBits_one hx r1 n, sameBits_all hx2 l1⟩
theorem keyStays {kt : TypeId} {ka : Bool} {ks : List CK} (hc : keyK E kt = some (ka, ks)) {x : List PV} {us : List Value} (hf : fits ks x = true) (hr : RL w I x us) : (Instr.keyThatStays (ofCells ka us) (ofCells ka us)).run E.P w = .ok (ofCells ka us) w := by
  have hs : Instr.sameBits 10000 (ofCells ka us) (ofCells ka us) = true := by
    unfold keyK at hc
    split at hc
    · rename_i c hp
      injection hc with hc
      injection hc with h1 h2
      subst h1; subst h2
      match x, fits_len hf, hf, hr with
      | [y], _, hf, hr =>
        obtain ⟨u, us', e1, r1, e2⟩ := hr
        obtain rfl : us' = [] := e2
        subst e1
        exact sameBits_one hf r1 10000
    · split at hc
      · split at hc
        · rename_i ks' he
          injection hc with hc
          injection hc with h1 h2
          subst h1; subst h2
          have := sameBits_all (n := 9999) hf hr
          show Instr.sameBits (9999 + 1) (.agg us.toArray) (.agg us.toArray) = true
          simp only [Instr.sameBits, beq_self_eq_true, Bool.true_and]
          exact this
        · cases hc
      · cases hc
  simp [Instr.keyThatStays, hs]
theorem RM.set {ka va : Bool} {ks : List CK} {k v : List PV} {ku vu : List Value} {n : Nat} (hk : fits ks k = true) (hku : RL w I k ku) (hvu : RL w I v vu) :
    ∀ {es : List (List PV × List PV × Nat)} {ents : List MapEntry} (i0 : Nat), (es.all fun e => fits ks e.1) = true → RM w I ka va es ents →
      (mfindI k es i0 = none ∧ RM w I ka va (mset k v n es) (ents ++ [⟨ofCells ka ku, ofCells va vu, n⟩])) ∨
      (∃ j x, mfindI k es i0 = some (i0 + j, x) ∧ (ents[j]?).map (·.key) = some (ofCells ka ku) ∧ RM w I ka va (mset k v n es) (ents.modify j fun e => { e with key := ofCells ka ku, val := ofCells va vu }))
  | [], ents, i0, _, h => by
    have h : ents = [] := h
    subst h
    exact .inl ⟨rfl, ku, vu, [], rfl, hku, hvu, rfl⟩
  | e :: es, ents, i0, hf, ⟨ku2, vu2, ents', e1, h1, h2, h3⟩ => by
    subst e1
    simp only [List.all_cons, Bool.and_eq_true] at hf
    by_cases he : eqCells k e.1 = true
    · right
      have hs := eq_same hk hf.1 he hku h1
      refine ⟨0, e.2.1, by simp [mfindI, he], by simp [hs], ?_⟩
      simp only [mset, he, if_true]
      exact ⟨ku, vu, ents', rfl, hku, hvu, h3⟩
    · have he' : eqCells k e.1 = false := by simpa using he
      rcases RM.set hk hku hvu (n := n) (i0 + 1) hf.2 h3 with ⟨a1, a2⟩ | ⟨j, x, a1, a2, a3⟩
      · left
        refine ⟨by simp [mfindI, he', a1], ?_⟩
        simp only [mset, he']
        exact ⟨ku2, vu2, _, rfl, h1, h2, a2⟩
      · right
        refine ⟨j + 1, x, by simp only [mfindI, he', Bool.false_eq_true, if_false, a1]; congr 2; omega, by simpa using a2, ?_⟩
        simp only [mset, he']
        exact ⟨ku2, vu2, _, rfl, h1, h2, a3⟩
theorem RM.del {ka va : Bool} {k : List PV} : ∀ {es : List (List PV × List PV × Nat)} {ents : List MapEntry} (i0 : Nat), RM w I ka va es ents →
      (mfindI k es i0 = none ∧ mdel k es = es) ∨ (∃ j x, mfindI k es i0 = some (i0 + j, x) ∧ j < ents.length ∧ RM w I ka va (mdel k es) (ents.eraseIdx j))
  | [], ents, i0, h => .inl ⟨rfl, rfl⟩
  | e :: es, ents, i0, ⟨ku2, vu2, ents', e1, h1, h2, h3⟩ => by
    subst e1
    by_cases he : eqCells k e.1 = true
    · right
      refine ⟨0, e.2.1, by simp [mfindI, he], by simp, ?_⟩
      simp only [mdel, he, if_true]
      exact h3
    · have he' : eqCells k e.1 = false := by simpa using he
      rcases RM.del (k := k) (i0 + 1) h3 with ⟨a1, a2⟩ | ⟨j, x, a1, a2, a3⟩
      · left
        exact ⟨by simp [mfindI, he', a1], by simp [mdel, he', a2]⟩
      · right
        refine ⟨j + 1, x, by simp only [mfindI, he', Bool.false_eq_true, if_false, a1]; congr 2; omega, by simpa using a2, ?_⟩
        simp only [mdel, he']
        exact ⟨ku2, vu2, _, rfl, h1, h2, a3⟩
theorem mfindI_has (k : List PV) (es : List (List PV × List PV × Nat)) (i : Nat) : (mfindI k es i).isSome = (mfind k es).isSome := by rw [← mfindI_find k es i]; simp

theorem SWO.makeMapG {ops : Array Oper} {o : Oper} {rest : List Oper} {Q : Exit → AS → Prop} {a : AS} (t : TypeId) (ka va : Bool) (hop : o.op = .makeMap t none) (hg : wantedA ops a o = some true) (hd : okDst a.n o.dst = true)
    (k : ∀ r, a.h r = none → SWO E ops rest Q { a.put o.dst (.val (.map (some r))) with h := a.h.put r (.gmap ka va [] 0) }) : SWO E ops (o :: rest) Q a := by
  refine SWO.to hg hd fun w I G act g r => ?_
  have hob : RObj (w.alloc (.map #[] 0)) I G w.heap.size (.gmap ka va [] 0) := ⟨[], by rw [heap_alloc_at], rfl⟩
  obtain ⟨g', s⟩ := g.alloc_own' _ hob
  refine ⟨_, .map (some w.heap.size), _, I, G, _, .val (.map (some w.heap.size)), ?_, .inl rfl, g', s, ⟨rfl, rfl⟩, k _ g.fresh⟩
  simp only [execOp, hop, Instr.makeMap, Sem.run_bind, Option.map_none]
  rfl
/-- The clock behind a set. -/
def mclock (k : List PV) (es : List (List PV × List PV × Nat)) (n : Nat) : Nat := if (mfind k es).isSome = true then n else n + 1
/-- A map is set at a key. -/
theorem SWO.mapSet {ops : Array Oper} {o : Oper} {rest : List Oper} {Q : Exit → AS → Prop} {a : AS} (t : TypeId) (m key v : Operand) (hop : o.op = .mapUpdate t m key v ∨ o.op = .insert t m key v) {i : TyI} {kt et : TypeId} (ht : E.ty t = some i) (hk : i.k = .map kt et) {ka : Bool} {ks : List CK} (hkk : keyK E kt = some (ka, ks))
    {r0 n : Nat} {va : Bool} {es : List (List PV × List PV × Nat)} {kv vv : PV} (hm : a.eval E m = .val (.map (some r0))) (hx : a.eval E key = kv) (hka : isAggV kv = ka) (hkf : fits ks kv.cells = true) (hv : a.eval E v = vv) (hva : isAggV vv = va) (hvk : known1 vv = true) (hr : a.h r0 = some (.gmap ka va es n)) (hf : (es.all fun e => fits ks e.1) = true)
    (hg : wantedA ops a o = some true) (hd : okDst a.n o.dst = true) (k : SWO E ops rest Q { a.put o.dst .any with h := a.h.put r0 (.gmap ka va (mset kv.cells vv.cells n es) (mclock kv.cells es n)) }) : SWO E ops (o :: rest) Q a := by
  refine SWO.to hg hd fun w I G act g r => ?_
  have hdt := ty_under ht
  rw [hk] at hdt
  have h1 := r.eval g m
  rw [hm] at h1
  have h1 := R_val h1
  have h2 := r.eval g key
  rw [hx] at h2
  obtain ⟨ku, e2, hku⟩ := fits_cells hkk hkf hka.symm h2
  have h3 := r.eval g v
  rw [hv] at h3
  have hvu := R_cells_run h3 hvk
  have e3 : act.eval v = ofCells va (act.eval v).cells.toList := by
    subst hva
    cases vv with
    | agg cs => obtain ⟨us, e, _⟩ := R_agg h3; rw [e]; rfl
    | any => cases hvk
    | tuple _ => cases hvk
    | _ =>
      have h4 : (act.eval v).oneCell' = true := R1.one (w := w) (I := I) h3
      generalize act.eval v = u at h4 ⊢
      cases u <;> first | rfl | (simp [Value.oneCell'] at h4)
  obtain ⟨hlt, hnI, hnG, ents, hcell, hrm⟩ := g.own _ _ hr
  obtain ⟨u, hu, hres⟩ := findKey_g hkk hkf hku es ents hf hrm
  have hck := checkKey_g (w := w) hkk hkf hku false
  let w2 : List MapEntry → Nat → World := fun l c => { w with heap := w.heap.setIfInBounds r0 (.map l.toArray c) }
  have fin : ∀ l c, (Instr.mapUpdate t (.map (some r0)) (act.eval key) (act.eval v)).run E.P w = .ok () (w2 l c) → c = mclock kv.cells es n → RM w I ka va (mset kv.cells vv.cells n es) l →
      ∃ n' u' w' I' G' h' v', (execOp act.eval o).run E.P w = .ok n' w' ∧ (n' = .value u' ∨ n' = .skip ∧ u' = undef) ∧ Good E w' I' G' h' ∧ Stp E.mono w I G a.h w' I' G' h' ∧ R w' I' v' u' ∧ SWO E ops rest Q { a.put o.dst v' with h := h' } := by
    intro l c hrun hc hl
    subst hc
    have hat : (w2 l (mclock kv.cells es n)).heap[r0]? = some (.map l.toArray (mclock kv.cells es n)) := by
      show (w.heap.setIfInBounds r0 _)[r0]? = _
      rw [Array.getElem?_setIfInBounds]
      simp [hlt]
    have hoth : ∀ k, k ≠ r0 → (w2 l (mclock kv.cells es n)).heap[k]? = w.heap[k]? := fun k hk => by
      show (w.heap.setIfInBounds r0 _)[k]? = _
      rw [Array.getElem?_setIfInBounds, if_neg (fun e => hk e.symm)]
    have hkeep : Keeps w I (w2 l (mclock kv.cells es n)) I := fun k hk => ⟨hk, hoth k (fun e => hnI (e ▸ hk))⟩
    obtain ⟨g', s'⟩ := g.write (w' := w2 l (mclock kv.cells es n)) (ob := .gmap ka va (mset kv.cells vv.cells n es) (mclock kv.cells es n)) hr rfl (by simp [w2]) hoth rfl rfl rfl ⟨l, hat, RM.keeps hkeep _ _ hl⟩
    refine ⟨.skip, undef, _, I, G, _, .any, ?_, .inr ⟨rfl, rfl⟩, g', s', trivial, k⟩
    rcases hop with hop | hop <;> simp only [execOp, hop, h1, Sem.run_bind, hrun, Result.andThen_ok, Sem.run_pure]
  rw [e2, e3] at fin
  have hu' : (Instr.findKey kt (ofCells ka ku) ents.toArray.toList).run E.P w = .ok u w := hu
  rcases RM.set (va := va) hkf hku hvu (n := n) 0 hf hrm with ⟨a1, a2⟩ | ⟨j, x, a1, a2, a3⟩
  · rw [a1] at hres
    have hres : u = none := hres
    subst hres
    have hns : (mfind kv.cells es).isSome = false := by rw [← mfindI_has _ _ 0, a1]; rfl
    refine fin _ (n + 1) ?_ (by unfold mclock; rw [hns]; rfl) a2
    simp only [Instr.mapUpdate, Sem.run_bind, run_underlying hdt, Result.andThen_ok, MapKept.run_getObj_map hcell, hck, hu', MapKept.run_setObj_map _ hcell, w2]
    simp
  · rw [a1] at hres
    obtain ⟨vu, rfl, _⟩ := hres
    have hs : (mfind kv.cells es).isSome = true := by rw [← mfindI_has _ _ 0, a1]; rfl
    refine fin _ n ?_ (by unfold mclock; rw [hs]; rfl) a3
    have hold : (((ents.toArray[0 + j]?).map (·.key)).getD (ofCells ka ku)) = ofCells ka ku := by
      rw [Nat.zero_add, List.getElem?_toArray, a2]
      rfl
    have hks := keyStays (w := w) (I := I) hkk hkf hku
    simp only [Instr.mapUpdate, Sem.run_bind, run_underlying hdt, Result.andThen_ok, MapKept.run_getObj_map hcell, hck, hu', hold, hks, MapKept.run_setObj_map _ hcell, w2]
    simp
/-- A key is deleted. -/
theorem SWO.mapDel {ops : Array Oper} {o : Oper} {rest : List Oper} {Q : Exit → AS → Prop} {a : AS} (t tk : TypeId) (m key : Operand) (hop : o.op = .call { callee := .builtin .delete, args := #[m, key], argTypes := #[t, tk] }) {i : TyI} {kt et : TypeId} (ht : E.ty t = some i) (hk : i.k = .map kt et) {ka : Bool} {ks : List CK} (hkk : keyK E kt = some (ka, ks))
    {r0 n : Nat} {va : Bool} {es : List (List PV × List PV × Nat)} {kv : PV} (hm : a.eval E m = .val (.map (some r0))) (hx : a.eval E key = kv) (hka : isAggV kv = ka) (hkf : fits ks kv.cells = true) (hr : a.h r0 = some (.gmap ka va es n)) (hf : (es.all fun e => fits ks e.1) = true)
    (hg : wantedA ops a o = some true) (hd : okDst a.n o.dst = true) (k : SWO E ops rest Q { a.put o.dst (.tuple []) with h := a.h.put r0 (.gmap ka va (mdel kv.cells es) n) }) : SWO E ops (o :: rest) Q a := by
  refine SWO.to hg hd fun w I G act g r => ?_
  have hdt := ty_under ht
  rw [hk] at hdt
  have h1 := r.eval g m
  rw [hm] at h1
  have h1 := R_val h1
  have h2 := r.eval g key
  rw [hx] at h2
  obtain ⟨ku, e2, hku⟩ := fits_cells hkk hkf hka.symm h2
  obtain ⟨hlt, hnI, hnG, ents, hcell, hrm⟩ := g.own _ _ hr
  obtain ⟨u, hu, hres⟩ := findKey_g hkk hkf hku es ents hf hrm
  have hck := checkKey_g (w := w) hkk hkf hku (ents.isEmpty)
  have hu' : (Instr.findKey kt (ofCells ka ku) ents.toArray.toList).run E.P w = .ok u w := hu
  have fin : ∀ l : List MapEntry, (Builtin.delete_ #[t, tk] o.type #[.map (some r0), ofCells ka ku]).run E.P w = .ok (.tuple #[]) { w with heap := w.heap.setIfInBounds r0 (.map l.toArray n) } → RM w I ka va (mdel kv.cells es) l →
      ∃ n' u' w' I' G' h' v', (execOp act.eval o).run E.P w = .ok n' w' ∧ (n' = .value u' ∨ n' = .skip ∧ u' = undef) ∧ Good E w' I' G' h' ∧ Stp E.mono w I G a.h w' I' G' h' ∧ R w' I' v' u' ∧ SWO E ops rest Q { a.put o.dst v' with h := h' } := by
    intro l hrun hl
    let w2 : World := { w with heap := w.heap.setIfInBounds r0 (.map l.toArray n) }
    have hat : w2.heap[r0]? = some (.map l.toArray n) := by
      show (w.heap.setIfInBounds r0 _)[r0]? = _
      rw [Array.getElem?_setIfInBounds]
      simp [hlt]
    have hoth : ∀ k, k ≠ r0 → w2.heap[k]? = w.heap[k]? := fun k hk => by
      show (w.heap.setIfInBounds r0 _)[k]? = _
      rw [Array.getElem?_setIfInBounds, if_neg (fun e => hk e.symm)]
    have hkeep : Keeps w I w2 I := fun k hk => ⟨hk, hoth k (fun e => hnI (e ▸ hk))⟩
    obtain ⟨g', s'⟩ := g.write (w' := w2) (ob := .gmap ka va (mdel kv.cells es) n) hr rfl (by simp [w2]) hoth rfl rfl rfl ⟨l, hat, RM.keeps hkeep _ _ hl⟩
    refine ⟨_, .tuple #[], w2, I, G, _, .tuple [], ?_, .inl rfl, g', s', ⟨[], rfl, rfl⟩, k⟩
    simp [execOp, hop, resolve, invoke, builtin, h1, e2, hrun, w2]
  rcases RM.del (k := kv.cells) 0 hrm with ⟨a1, a2⟩ | ⟨j, x, a1, a2, a3⟩
  · rw [a1] at hres
    have hres : u = none := hres
    subst hres
    refine fin ents ?_ (by rw [a2]; exact hrm)
    simp [Builtin.delete_, run_underlying hdt, MapKept.run_getObj_map hcell, hck, hu, MapKept.run_setObj_map _ hcell, Result.andThen]
  · rw [a1] at hres
    obtain ⟨vu, rfl, _⟩ := hres
    refine fin _ ?_ a3
    rw [Nat.zero_add] at hu
    simp [Builtin.delete_, run_underlying hdt, MapKept.run_getObj_map hcell, hck, hu, MapKept.run_setObj_map _ hcell, Result.andThen, Array.eraseIdxIfInBounds, a2]
end
end Go.Proofs.YtincpomenogppaaDoor.Lift

namespace Go.Proofs.YtincpomenogppaaDoor.Lift
open Go Go.RowKit
variable {E : Env}
/-- The first statements of a sequence, and what is known behind them. -/
def seqW (E : Env) (S : Specs E) (Q : Exit → AS → Prop) (M : AS → Prop) : Nat → Code → AS → Prop
  | 0, _, a => M a
  | k + 1, .seq x y, a => wpC E S x (thenQ (seqW E S Q M k y) Q) a
  | _ + 1, _, _ => False
/-- The code behind them. -/
def dropSeq : Nat → Code → Code
  | 0, c => c
  | k + 1, .seq _ y => dropSeq k y
  | _ + 1, c => c
theorem SW.cutK (S : Specs E) (k : Nat) (M : AS → Prop) : ∀ {c : Code} {Q : Exit → AS → Prop} {a : AS}, seqW E S Q M k c a → (∀ a, M a → SW E (dropSeq k c) Q a) → SW E c Q a := by
  induction k with
  | zero => intro c Q a h hk; exact hk a h
  | succ k ih =>
    intro c Q a h hk
    cases c with
    | seq x y =>
      refine SW.seq ((SW.run S x h).mono fun e a' q => ?_)
      cases e with
      | normal => exact ih q hk
      | _ => exact q
    | _ => exact h.elim
/-- A slice of one's own that stands first in a result is let go. -/
theorem Own.letGoT {h0 H : Heap} {e : TypeId} {sz : Nat} {xs : List (List PV)} {v : PV} (hown : Own h0 e sz xs v H) (rest : List PV) :
    LetGo E H (.tuple (v :: rest)) h0 (.tuple (.list sz xs :: rest)) := fun w I G g => by
  obtain ⟨I', G', g', s, hk, hr⟩ := hown.letGo1 g
  refine ⟨I', G', g', s, hk, fun u hu => ?_⟩
  obtain ⟨us, rfl, hu⟩ : ∃ us : List Value, u = .tuple us.toArray ∧ R0s w I (v :: rest) us := hu
  obtain ⟨u1, us', rfl, h1, h2⟩ := hu
  refine ⟨_, rfl, u1, us', rfl, ?_, R0s.keeps' hk _ _ h2⟩
  have hv : v ≠ .any ∧ (∀ c, v ≠ .tuple c) ∧ (∀ c, v ≠ .agg c) := by
    rcases hown with ⟨rfl, _⟩ | ⟨_, _, rfl, _⟩ <;> simp
  have h1' : R1 w I v u1 := by
    rcases hown with ⟨rfl, _⟩ | ⟨_, _, rfl, _⟩ <;> exact h1
  exact hr _ h1'
/-- .. or is the whole of it. -/
theorem Own.letGoV {h0 H : Heap} {e : TypeId} {sz : Nat} {xs : List (List PV)} {v : PV} (hown : Own h0 e sz xs v H) : LetGo E H v h0 (.list sz xs) := fun w I G g => by
  obtain ⟨I', G', g', s, hk, hr⟩ := hown.letGo1 g
  refine ⟨I', G', g', s, hk, fun u hu => ?_⟩
  have h1' : R1 w I v u := by
    rcases hown with ⟨rfl, _⟩ | ⟨_, _, rfl, _⟩ <;> exact hu
  exact hr _ h1'
theorem Own.slice {h0 H : Heap} {e : TypeId} {sz : Nat} {xs : List (List PV)} {v : PV} (o : Own h0 e sz xs v H) : ∃ A c, v = .val (.slice A xs.length c) := by
  rcases o with ⟨rfl, rfl, _⟩ | ⟨r, cap, rfl, _⟩
  · exact ⟨none, 0, rfl⟩
  · exact ⟨_, _, rfl⟩
theorem HTo.own {E : Env} {h0 H : Heap} {e : TypeId} {sz : Nat} {xs : List (List PV)} {v : PV} (o : Own h0 e sz xs v H) : HTo E H h0 := by
  rcases o with ⟨_, _, rfl⟩ | ⟨r, cap, _, _, _, hr, rfl, _⟩
  · exact .refl _ _
  · exact HTo.put (.refl _ _) hr _
/-- What is owned may be forgotten. -/
theorem HTo.of {h H : Heap} (hk : ∀ k X, h k = some X → H k = some X) : HTo E H h := HSub.to fun k => by
  cases e : h k with
  | none => exact .inl rfl
  | some X => exact .inr (hk k X e).symm
theorem Own.base {h0 H : Heap} {e : TypeId} {sz : Nat} {xs : List (List PV)} {v : PV} (o : Own h0 e sz xs v H) {k : Nat} {X : AObj} (hk : h0 k = some X) : H k = some X := by
  rcases o with ⟨_, _, rfl⟩ | ⟨r, cap, _, _, _, hr, rfl, _⟩
  · exact hk
  · rw [Heap.put_ne _ _ (fun e => by rw [e, hr] at hk; cases hk)]; exact hk
end Go.Proofs.YtincpomenogppaaDoor.Lift

namespace Go.Proofs.YtincpomenogppaaDoor.Lift
open Go Go.RowKit
section
variable {E : Env} {w w1 w' : World} {I I1 I' : Nat → Prop} {G G1 G' : Nat → Option Nat} {h h' : Heap}

/-- A part with labels out of which nothing jumps to one. -/
def noGo (Q : Exit → AS → Prop) : Exit → AS → Prop
  | .goto _, _ => False
  | .normal, a => Q .normal a
  | .exit id, a => Q (.exit id) a
  | .ret, a => Q .ret a
  | .panic c, a => Q (.panic c) a
  | .outgrown, a => Q .outgrown a
theorem SW.scope {c : Code} {Q : Exit → AS → Prop} {a : AS} (h : SW E c (noGo Q) a) : SW E (.scope c) Q a := by
  intro w I G act g r
  refine wp_scope_straight (wp_mono (h w I G act g r) ?_)
  intro e act' w' ⟨a', I', G', g', r', s', q⟩
  cases e with
  | goto l => exact q.elim
  | _ => exact ⟨a', I', G', g', r', s', q⟩
theorem SWO.range_map {ops : Array Oper} {o : Oper} {rest : List Oper} {Q : Exit → AS → Prop} {a : AS} (t : TypeId) (x : Operand) (hop : o.op = .range t x) {i : TyI} {kt et : TypeId} (ht : E.ty t = some i) (hk : i.k = .map kt et)
    {m n : Nat} {ka va : Bool} {es : List (List PV × List PV × Nat)} (hx : a.eval E x = .val (.map (some m))) (hm : a.h m = some (.gmap ka va es n)) (hg : wantedA ops a o = some true) (hd : okDst a.n o.dst = true)
    (k : ∀ r, a.h r = none → SWO E ops rest Q { a.put o.dst (.val (.pointer (some ⟨r, 0, none⟩))) with h := a.h.put r (.miter m n []) }) : SWO E ops (o :: rest) Q a := by
  refine SWO.to hg hd fun w I G act g r => ?_
  have hx' := r.eval g x
  rw [hx] at hx'
  have hx' := R_val hx'
  have hdt := ty_under ht
  rw [hk] at hdt
  obtain ⟨_, _, _, ents, hcell, hrm⟩ := g.own _ _ hm
  have hr := Go.run_range_map (P := E.P) w t kt et m ents.toArray n hdt hcell
  obtain ⟨g', s⟩ := g.alloc_own' (.mapIter (some m) n #[] n) (ob := .miter m n []) (by show _ = _; rw [heap_alloc_at])
  refine ⟨_, .pointer (some ⟨w.heap.size, 0, none⟩), _, I, G, _, .val (.pointer (some ⟨w.heap.size, 0, none⟩)), ?_, .inl rfl, g', s, ⟨rfl, rfl⟩, k _ g.fresh⟩
  simp only [execOp, hop, hx', Sem.run_bind]
  rw [hr]
  rfl
theorem RM.born {ka va : Bool} : ∀ {es : List (List PV × List PV × Nat)} {ents : List MapEntry}, RM w I ka va es ents → ents.map (·.born) = es.map (·.2.2)
  | [], _, h => by
    have h : _ = [] := h
    rw [h]; rfl
  | _ :: _, _, ⟨_, _, _, e, _, _, h⟩ => by rw [e, List.map_cons, List.map_cons, RM.born h]
theorem RM.at {ka va : Bool} : ∀ {es : List (List PV × List PV × Nat)} {ents : List MapEntry}, RM w I ka va es ents → ∀ e ∈ es, ∃ ku vu, (⟨ofCells ka ku, ofCells va vu, e.2.2⟩ : MapEntry) ∈ ents ∧ RL w I e.1 ku ∧ RL w I e.2.1 vu
  | [], _, _, e, he => by cases he
  | x :: es, _, ⟨ku, vu, ents', e1, h1, h2, h3⟩, e, he => by
    subst e1
    rcases List.mem_cons.1 he with rfl | he
    · exact ⟨ku, vu, List.mem_cons_self .., h1, h2⟩
    · obtain ⟨ku', vu', k1, k2, k3⟩ := RM.at h3 e he
      exact ⟨ku', vu', List.mem_cons_of_mem _ k1, k2, k3⟩
/-- The next entry of a map into which nothing was laid since the loop began: any that has not been met; or none is left. -/
theorem SWO.next_map {ops : Array Oper} {o : Oper} {rest : List Oper} {Q : Exit → AS → Prop} {a : AS} (x : Operand) (hop : o.op = .next x false) {r0 m n : Nat} {seen : List Nat} {ka va : Bool} {es : List (List PV × List PV × Nat)}
    (hx : a.eval E x = .val (.pointer (some ⟨r0, 0, none⟩))) (hr0 : a.h r0 = some (.miter m n seen)) (hm : a.h m = some (.gmap ka va es n)) (hb : ∀ e ∈ es, e.2.2 < n) (hg : wantedA ops a o = some true) (hd : okDst a.n o.dst = true)
    (k1 : ∀ e ∈ es, e.2.2 ∉ seen → SWO E ops rest Q { a.put o.dst (.tuple [.bool true, .any, .any]) with h := a.h.put r0 (.miter m n (seen ++ [e.2.2])) })
    (k0 : (∀ e ∈ es, e.2.2 ∈ seen) → SWO E ops rest Q (a.put o.dst (.tuple [.bool false]))) : SWO E ops (o :: rest) Q a := by
  refine SWO.to hg hd fun w I G act g r => ?_
  have hx' := r.eval g x
  rw [hx] at hx'
  have hx' := R_val hx'
  have hcr : w.heap[r0]? = some (.mapIter (some m) n seen.toArray n) := (g.own _ _ hr0).2.2.2
  obtain ⟨_, _, _, ents, hcell, hrm⟩ := g.own _ _ hm
  have hborn := RM.born hrm
  rcases Go.run_next_at (P := E.P) w o.type r0 m n n seen.toArray ents.toArray n hcr hcell (fun e he => by
    have : e.born ∈ ents.map (·.born) := List.mem_map.2 ⟨e, by simpa using he, rfl⟩
    rw [hborn] at this
    obtain ⟨e', he', h2⟩ := List.mem_map.1 this
    rw [← h2]
    exact hb e' he') (Nat.le_refl _) with ⟨h0, hrun⟩ | ⟨e, he, w1, hw1, hrun⟩
  · refine ⟨_, .tuple #[.bool false], w, I, G, a.h, .tuple [.bool false], by simp only [execOp, hop, hx', Sem.run_bind]; rw [hrun]; rfl, .inl rfl, g, .refl .., ⟨_, rfl, _, _, rfl, rfl, rfl⟩, ?_⟩
    have e0 : ({ a.put o.dst (.tuple [.bool false]) with h := a.h } : AS) = a.put o.dst (.tuple [.bool false]) := by rw [← put_h a o.dst (.tuple [.bool false])]
    rw [e0]
    refine k0 fun e he => ?_
    obtain ⟨ku, vu, hmem, _, _⟩ := RM.at hrm e he
    have hl : (leftOf ents.toArray seen.toArray) = #[] := Array.size_eq_zero_iff.1 h0
    by_cases hs : e.2.2 ∈ seen
    · exact hs
    · exfalso
      have : (⟨ofCells ka ku, ofCells va vu, e.2.2⟩ : MapEntry) ∈ leftOf ents.toArray seen.toArray := by
        unfold leftOf
        simp [hmem, hs]
      rw [hl] at this
      simp at this
  · have hmem : e ∈ ents ∧ e.born ∉ seen := by
      unfold leftOf at he
      simpa using he
    have hb2 : e.born ∈ ents.map (·.born) := List.mem_map.2 ⟨e, hmem.1, rfl⟩
    rw [hborn] at hb2
    obtain ⟨e', he', h2⟩ := List.mem_map.1 hb2
    have hw1h : w1.heap = w.heap := by rcases hw1 with rfl | rfl <;> rfl
    have g1 : Good E w1 I G a.h := by
      rcases hw1 with rfl | rfl
      · exact g
      · exact g.drew _ rfl
    have s1 : Stp E.mono w I G a.h w1 I G a.h := by
      rcases hw1 with rfl | rfl
      · exact .refl ..
      · exact ⟨rfl, rfl, rfl, Nat.le_refl _, fun _ _ a b => ⟨rfl, a, b⟩, fun _ h => h, fun _ _ _ _ h => h, fun _ => Nat.le_succ _⟩
    have hlt := (g.own _ _ hr0).1
    obtain ⟨g', s'⟩ := g1.write (w' := Go.ChangeMaps.setBlock w1 r0 (.mapIter (some m) n (seen.toArray.push e.born) n)) (ob := .miter m n (seen ++ [e.born])) hr0 rfl (by simp [Go.ChangeMaps.setBlock]) (fun k hk => by
      show ((w1.heap.setIfInBounds r0 _)[k]?) = _
      rw [Array.getElem?_setIfInBounds, if_neg (fun e => hk e.symm)]) rfl rfl rfl (by
        show ((w1.heap.setIfInBounds r0 _)[r0]?) = _
        rw [Array.getElem?_setIfInBounds, hw1h]
        simp [hlt])
    refine ⟨_, .tuple #[.bool true, e.key, e.val], _, I, G, _, .tuple [.bool true, .any, .any], by simp only [execOp, hop, hx', Sem.run_bind]; rw [hrun]; rfl, .inl rfl, g', s1.trans s', ⟨_, rfl, _, _, rfl, rfl, _, _, rfl, trivial, _, _, rfl, trivial, rfl⟩, ?_⟩
    have := k1 e' he' (by rw [h2]; exact hmem.2)
    rw [h2] at this
    exact this
/-- The entry that has just been met. -/
theorem SWO.entry_map {ops : Array Oper} {o : Oper} {rest : List Oper} {Q : Exit → AS → Prop} {a : AS} (x : Operand) (hop : o.op = .entry x) {r0 m n : Nat} {seen : List Nat} {ka va : Bool} {es : List (List PV × List PV × Nat)} {e : List PV × List PV × Nat}
    (hx : a.eval E x = .val (.pointer (some ⟨r0, 0, none⟩))) (hr0 : a.h r0 = some (.miter m n (seen ++ [e.2.2]))) (hm : a.h m = some (.gmap ka va es n)) (hnd : (es.map (·.2.2)).Nodup) (he : e ∈ es) (hka : ka = false → e.1.length = 1) (hva : va = false → e.2.1.length = 1) (hg : wantedA ops a o = some true) (hd : okDst a.n o.dst = true)
    (k : SWO E ops rest Q (a.put o.dst (.tuple [valOf ka e.1, valOf va e.2.1]))) : SWO E ops (o :: rest) Q a := by
  refine SWO.val (.tuple [valOf ka e.1, valOf va e.2.1]) hg hd (fun w I G act g r => ?_) k
  have hx' := r.eval g x
  rw [hx] at hx'
  have hx' := R_val hx'
  have hcr : w.heap[r0]? = some (.mapIter (some m) n (seen ++ [e.2.2]).toArray n) := (g.own _ _ hr0).2.2.2
  obtain ⟨_, _, _, ents, hcell, hrm⟩ := g.own _ _ hm
  obtain ⟨ku, vu, hmem, h1, h2⟩ := RM.at hrm e he
  have hrun := Go.run_entry_at (P := E.P) w r0 m n seen.toArray ents.toArray n ⟨ofCells ka ku, ofCells va vu, e.2.2⟩ (by rw [hcr]; simp) hcell (by simpa using hmem) (by
    show (ents.map (·.born)).Nodup
    rw [RM.born hrm]; exact hnd)
  refine ⟨.tuple #[ofCells ka ku, ofCells va vu], ?_, [ofCells ka ku, ofCells va vu], rfl, _, _, rfl, ?_, _, _, rfl, ?_, rfl⟩
  · simp only [execOp, hop, hx', Sem.run_bind]
    rw [hrun]
    rfl
  · exact R0_valOf h1 hka
  · exact R0_valOf h2 hva
/-- A call whose answer, and what it makes of what is owned, are known. -/
theorem SWO.callRet {ops : Array Oper} {o : Oper} {rest : List Oper} {Q : Exit → AS → Prop} {a : AS} (x : Operand) (xs : Array Operand) (ts : Array TypeId) (f : FuncId) (first caps : Array Value) {args : List PV} {v : PV} {h2 : Heap}
    (hop : o.op = .call { callee := .value x, args := xs, argTypes := ts }) (hx : a.eval E x = .val (.func (.func f) first caps)) (hfirst : first.toList.all okRaw = true) (hcaps : caps.toList.all okRaw = true) (hok : (xs.toList.all fun x => okArg (a.eval E x)) = true)
    (hargs : first.toList.map ofVal ++ xs.toList.map (a.eval E) ++ caps.toList.map ofVal = args) (hc : SCalls E f args a.h (Ret v h2)) (hg : wantedA ops a o = some true) (hd : okDst a.n o.dst = true)
    (k : SWO E ops rest Q { a.put o.dst v with h := h2 }) : SWO E ops (o :: rest) Q a :=
  SWO.call x xs ts f first caps hop hx hfirst hcaps hok hargs hc hg hd (fun p h' ⟨hp, hh⟩ => by
    injection hp with hp
    subst hp; subst hh
    exact k) (fun c h' ⟨hp, _⟩ => by cases hp)
theorem splice_nil (cs : List PV) (o : Nat) : splice cs o [] = cs := by
  unfold splice
  simp
theorem RL_zeros (w2 : World) (I2 : Nat → Prop) {ie : TyI} (hz : okZero ie = true) : ∀ n, RL w2 I2 (List.replicate n (ie.zero.map ofVal)).flatten (List.replicate n ie.zero).flatten
  | 0 => by simp [RL]
  | n + 1 => by
    simp only [List.replicate_succ, List.flatten_cons]
    exact (RL_zero w2 I2 hz).append (RL_zeros w2 I2 hz n)
/-- A part of one's own row is cleared. -/
theorem SWO.clear {ops : Array Oper} {o : Oper} {rest : List Oper} {Q : Exit → AS → Prop} {a : AS} (x : Operand) (t : TypeId) (hop : o.op = .call { callee := .builtin .clear, args := #[x], argTypes := #[t] }) {i ie : TyI} {e : TypeId} (ht : E.ty t = some i) (hk : i.k = .slice e) (he : E.ty e = some ie) (hzl : ie.zero.length = ie.size) (hz : okZero ie = true)
    {r0 o0 n cp : Nat} {t' : TypeId} {size : Nat} {cs : List PV} (hx : a.eval E x = .val (.slice (some ⟨r0, o0, none⟩) n cp)) (hr0 : a.h r0 = some (.cells t' size cs)) (hfit : o0 + n * ie.size ≤ cs.length) (hg : wantedA ops a o = some true) (hd : okDst a.n o.dst = true)
    (k : SWO E ops rest Q { a.put o.dst (.tuple []) with h := a.h.put r0 (.cells t' size (splice cs o0 (List.replicate n (ie.zero.map ofVal)).flatten)) }) : SWO E ops (o :: rest) Q a := by
  refine SWO.to hg hd fun w I G act g r => ?_
  have hdt := ty_under ht
  rw [hk] at hdt
  have hx' := r.eval g x
  rw [hx] at hx'
  have hx' := R_val hx'
  obtain ⟨_, _, _, us, rs, hh, hr, hl⟩ := g.own _ _ hr0
  have hrl := hr.length
  by_cases h0 : n = 0
  · subst h0
    have e0 : a.h.put r0 (.cells t' size (splice cs o0 (List.replicate 0 (ie.zero.map ofVal)).flatten)) = a.h := by
      rw [List.replicate_zero, List.flatten_nil, splice_nil]
      funext q
      by_cases e : q = r0
      · subst e; rw [Heap.put_same, hr0]
      · rw [Heap.put_ne _ _ e]
    rw [e0] at k
    refine ⟨_, .tuple #[], w, I, G, _, .tuple [], ?_, .inl rfl, g, .refl .., ⟨[], rfl, rfl⟩, k⟩
    simp [execOp, hop, resolve, invoke, builtin, hx', Builtin.clear_, run_underlying hdt]
  · obtain ⟨z, hzr, hzc⟩ := ty_zero he w
    have hcells : (Builtin.zeroCells z.cells n).toList = (List.replicate n ie.zero).flatten := by
      have := zeroRow ie.zero n
      have e2 : z.cells = ie.zero.toArray := by apply Array.ext'; simp [hzc]
      unfold Builtin.zeroCells
      rw [List.size_toArray] at this
      rw [e2, List.size_toArray, this]
    have hvl : (List.replicate n ie.zero).flatten.length = n * ie.size := by rw [rep_len, hzl]
    have hone : ∀ v ∈ (List.replicate n ie.zero).flatten, v.oneCell' = true := by
      intro v hv
      obtain ⟨l, hl1, hl2⟩ := List.mem_flatten.1 hv
      rw [(List.mem_replicate.1 hl1).2] at hl2
      unfold okZero at hz
      rw [List.all_eq_true] at hz
      exact hz v hl2
    have hRL : ∀ (w2 : World) (I2 : Nat → Prop), RL w2 I2 (List.replicate n (ie.zero.map ofVal)).flatten (List.replicate n ie.zero).flatten := by
      intro w2 I2
      exact RL_zeros w2 I2 hz n
    have hst := run_storeCells_at E.P r0 o0 t' (List.replicate n ie.zero).flatten 0 (us ++ rs).toArray w hh (by simp only [List.size_toArray, List.length_append]; omega) hone
    simp only [Nat.add_zero] at hst
    let w2 := w.setRow r0 (us.take o0 ++ (List.replicate n ie.zero).flatten ++ us.drop (o0 + (List.replicate n ie.zero).flatten.length) ++ rs).toArray
    have hob : RObj w2 I G r0 (.cells t' size (splice cs o0 (List.replicate n (ie.zero.map ofVal)).flatten)) := by
      have hk2 : Keeps w I w2 I := fun k hk => ⟨hk, setRow_other w r0 k _ (fun e => (g.own _ _ hr0).2.1 (e ▸ hk))⟩
      refine ⟨_, rs, setRow_heap w r0 _ _ t' (0, 0) hh, RL.keeps hk2 _ _ (hr.splice (hRL w I) o0), ?_⟩
      simp only [List.length_append, List.length_take, List.length_drop]
      omega
    obtain ⟨g', s⟩ := g.write hr0 rfl (by simp [w2]) (fun k hk => setRow_other w r0 k _ hk) rfl rfl rfl hob
    refine ⟨_, .tuple #[], w2, I, G, _, .tuple [], ?_, .inl rfl, g', s, ⟨[], rfl, rfl⟩, k⟩
    have hw2 : (storeCells ⟨r0, o0, none⟩ (List.replicate n ie.zero).flatten).run E.P w = .ok () w2 := by
      rw [hst]
      congr 2
      have h1 : o0 ≤ us.length := by omega
      have h2 : o0 + (List.replicate n ie.zero).flatten.length ≤ us.length := by omega
      rw [List.take_append_of_le_length h1, List.drop_append_of_le_length h2]
      simp
    obtain ⟨m, rfl⟩ : ∃ m, n = m + 1 := ⟨n - 1, by omega⟩
    simp [execOp, hop, resolve, invoke, builtin, hx', Builtin.clear_, run_underlying hdt, hzr, hcells, hw2]
end
end Go.Proofs.YtincpomenogppaaDoor.Lift

namespace Go.Proofs.YtincpomenogppaaDoor.Lift
open Go Go.RowKit
section
variable {E : Env} {S : Specs E} {md : Region.Mode} {ops : Array Oper} {w w1 w' : World} {I I1 I' : Nat → Prop} {G G1 G' : Nat → Option Nat} {h h' : Heap}

def LAnyB (E : Env) (S : Specs E) (md : Region.Mode) (ops : Array Oper) (last : Nat) (Q : AS → Prop) : Nat → Array Bool → AS → Prop
  | 0, listed, a => Region.ready md ops listed = [last] ∧ Region.ready md ops (listed.setIfInBounds last true) = [] ∧ Q a
  | fuel + 1, listed, a => Region.ready md ops listed ≠ [] ∧ ∀ i ∈ Region.ready md ops listed, LOp E S ops i (LAnyB E S md ops last Q fuel (listed.setIfInBounds i true)) a
theorem AEq.lanyB {last : Nat} {Q : AS → Prop} (hQ : ∀ a b, AEq a b → Q a → Q b) : ∀ (fuel : Nat) {listed : Array Bool} {a b : AS}, AEq a b → LAnyB E S md ops last Q fuel listed a → LAnyB E S md ops last Q fuel listed b
  | 0, _, _, _, e, h => ⟨h.1, h.2.1, hQ _ _ e h.2.2⟩
  | fuel + 1, _, _, _, e, h => ⟨h.1, fun i hi => e.lop (fun _ _ e h => AEq.lanyB hQ fuel e h) (h.2 i hi)⟩
theorem LAnyB.sound {last : Nat} {o : Oper} (ho : ops[last]? = some o) {Q : AS → Prop} {R : Exit → AS → Prop} (hQ : ∀ a, Q a → ∃ c, AEq c a ∧ SWO E ops [o] R c) : ∀ (fuel : Nat) {listed : Array Bool} {a : AS}, LAnyB E S md ops last Q fuel listed a → ∀ {w I G act}, Good E w I G a.h → RS E w I a act → ∀ {w0 I0 G0 h0}, Stp E.mono w0 I0 G0 h0 w I G a.h →
    wpAny E.P md ops (Post E w0 I0 G0 h0 R) (fuel + 1) listed act w
  | 0, listed, a, h, w, I, G, act, g, r, w0, I0, G0, h0, s => by
    obtain ⟨h1, h2, h3⟩ := h
    refine ⟨fun e => (by rw [h1] at e; cases e), fun i hi => ?_⟩
    rw [h1] at hi
    obtain rfl : i = last := by simpa using hi
    obtain ⟨c, hc, hs⟩ := hQ a h3
    have gc : Good E w I G c.h := by rw [hc.2.1]; exact g
    have hc' : AEq a c := ⟨hc.1.symm, hc.2.1.symm, fun t => (hc.2.2 t).symm⟩
    have rc : RS E w I c act := r.same hc.1 hc.2.2
    have h4 := hs w I G act gc rc
    have s2 : Stp E.mono w0 I0 G0 h0 w I G c.h := by rw [hc.2.1]; exact s
    unfold wpList at h4
    unfold wpOp
    rw [ho]
    dsimp only
    have fin : ∀ act' w', Post E w I G c.h R .normal act' w' → Post E w0 I0 G0 h0 R .normal act' w' := fun _ _ p => Post.trans s2 p
    have k1 : ∀ act' w', wpList E.P ops (Post E w I G c.h R) [] act' w' → wpAny E.P md ops (Post E w0 I0 G0 h0 R) 0 (listed.setIfInBounds i true) act' w' := fun act' w' p => ⟨h2, fin _ _ p⟩
    split
    · rename_i hw
      rw [if_pos hw] at h4
      rcases h4 with h4 | ⟨h5, h6⟩
      · exact .inl (upon_mono k1 (fun e act' w' p => Post.trans s2 p) h4)
      · exact .inr ⟨h5, LetsOut.mono (fun e act' w' p => Post.trans s2 p) h6⟩
    · rename_i hw
      rw [if_neg hw] at h4
      exact k1 _ _ h4
  | fuel + 1, listed, a, h, w, I, G, act, g, r, w0, I0, G0, h0, s => by
    refine ⟨fun e => absurd e h.1, fun i hi => ?_⟩
    have h1 := h.2 i hi
    unfold LOp at h1
    unfold wpOp
    split
    · rename_i e
      rw [e] at h1
      exact LAnyB.sound ho hQ fuel h1 g r s
    · rename_i o e
      rw [e] at h1
      obtain ⟨hd, h1⟩ := h1
      cases hw : wantedA ops a o with
      | none => rw [hw] at h1; simp at h1
      | some b =>
        rw [hw] at h1
        cases b with
        | true =>
          rw [if_pos rfl] at h1
          rw [if_pos (r.wanted hw)]
          exact .inl (step1_wp hd h1 g r fun a' act' w' I' G' g' r' s' k => LAnyB.sound ho hQ fuel k g' r' (s.trans s'))
        | false =>
          rw [if_neg (by simp), if_pos rfl] at h1
          rw [if_neg (by rw [r.wanted hw]; simp)]
          have hh : (a.put o.dst (.tuple [])).h = a.h := put_h a _ _
          exact LAnyB.sound ho hQ fuel h1 (by rw [hh]; exact g) (r.put hd ⟨[], rfl, rfl⟩) (by rw [hh]; exact s)
/-- The last operation waits for all others. -/
def lastB (md : Region.Mode) (ops : Array Oper) (last : Nat) : Bool := (List.range ops.size).all fun i => i == last || waits md ops i ops.size last
theorem LAnyB.first {last : Nat} (hlast : lastB md ops last = true) {Q : AS → Prop} (hQ : ∀ a b, AEq a b → Q a → Q b) {i : Nat} {oi : Oper} {v : PV} (hi : ops[i]? = some oi) (hil : i ≠ last) (hq : quietOp S oi.op = true) :
    ∀ (fuel : Nat) (listed : Array Bool) (a : AS),
      (∀ j oj, ops[j]? = some oj → j ≠ i → listed.getD j true = false → waits md ops i ops.size j = false → oi.apart ops oj = true ∧ (isLoad oi.op && hxOp S oj.op) = false) →
      Closed md ops listed → i ∈ Region.ready md ops listed → LY E S ops oi v a →
      LAnyB E S md ops last Q fuel (listed.setIfInBounds i true) (a.put oi.dst v) → LAnyB E S md ops last Q (fuel + 1) listed a := by
  have hw0 : waits md ops i ops.size last = true := by
    unfold lastB at hlast
    rw [List.all_eq_true] at hlast
    have := hlast i (List.mem_range.2 (Array.getElem?_eq_some_iff.1 hi).1)
    simpa [hil] using this
  intro fuel
  induction fuel with
  | zero =>
    intro listed a _ hcl hr hy H
    refine ⟨fun h => (by rw [h] at hr; cases hr), fun j hj => ?_⟩
    by_cases hji : j = i
    · subst hji; exact hy.lop hi hq H
    · have h1 := ready_mono hj hji
      rw [H.1] at h1
      obtain rfl : j = last := by simpa using h1
      obtain ⟨_, oj, hoj, hall⟩ := mem_ready.1 hj
      have hi0 : listed.getD i false = false := by
        have h0 := (mem_ready.1 hr).1
        rcases Nat.lt_or_ge i listed.size with h' | h'
        · simp [h'] at h0 ⊢; exact h0
        · simp [Array.getElem?_eq_none h'] at h0
      rw [waits_no hcl hi0 _ _ _ hoj hall] at hw0
      cases hw0
  | succ fuel ih =>
    intro listed a hfree hcl hr hy H
    refine ⟨fun h => (by rw [h] at hr; cases hr), fun j hj => ?_⟩
    by_cases hji : j = i
    · subst hji; exact hy.lop hi hq H
    · have h1 := H.2 j (ready_mono hj hji)
      obtain ⟨hjun, oj, hoj, hall⟩ := mem_ready.1 hj
      have hi0 : listed.getD i false = false := by
        have h0 := (mem_ready.1 hr).1
        rcases Nat.lt_or_ge i listed.size with h' | h'
        · simp [h'] at h0 ⊢; exact h0
        · simp [Array.getElem?_eq_none h'] at h0
      have hnot : waits md ops i ops.size j = false := waits_no hcl hi0 _ _ _ hoj hall
      obtain ⟨hap, hls⟩ := hfree j oj hoj hji hjun hnot
      have h2 := LOp.past (fun _ _ e k => AEq.lanyB hQ fuel e k) hoj hap hls hy h1
      have hfree' : ∀ k ok, ops[k]? = some ok → k ≠ i → (listed.setIfInBounds j true).getD k true = false →
          waits md ops i ops.size k = false → oi.apart ops ok = true ∧ (isLoad oi.op && hxOp S ok.op) = false := fun k ok hk hki hun hno => by
        refine hfree k ok hk hki ?_ hno
        by_cases hjk : j = k
        · subst hjk; exact hjun
        · rw [getD_set_ne true hjk] at hun; exact hun
      refine LOp.mono (fun a' h3 => ih (listed.setIfInBounds j true) a' hfree' (hcl.step (ready_mono hj hji |> fun _ => hj)) (ready_mono hr (Ne.symm hji)) h3.1 ?_) h2
      rw [Array.setIfInBounds_comm _ _ hji]
      exact h3.2
/-- May a region be walked in this order up to its last operation? -/
def ordOKB (S : Specs E) (md : Region.Mode) (ops : Array Oper) (last : Nat) : List Nat → Array Bool → Bool
  | [], listed => Region.ready md ops listed == [last] && (Region.ready md ops (listed.setIfInBounds last true)).isEmpty
  | i :: l, listed => (Region.ready md ops listed).contains i && (i != last) && (ops[i]?).isSome && (freeL S md ops listed i || Region.ready md ops listed == [i]) && ordOKB S md ops last l (listed.setIfInBounds i true)
theorem wpO_anyB {last : Nat} (hlast : lastB md ops last = true) {Q : AS → Prop} (hQ : ∀ a b, AEq a b → Q a → Q b) : ∀ (l : List Nat) (listed : Array Bool) (a : AS), Closed md ops listed → ordOKB S md ops last l listed = true → wpO E S ops l Q a → LAnyB E S md ops last Q l.length listed a
  | [], listed, a, _, hB, h => by
    simp only [ordOKB, Bool.and_eq_true] at hB
    exact ⟨by simpa using hB.1, by simpa using hB.2, h⟩
  | i :: l, listed, a, hcl, hB, h => by
    simp only [ordOKB, Bool.and_eq_true] at hB
    obtain ⟨⟨⟨⟨hr, hil⟩, hi⟩, hf⟩, hB'⟩ := hB
    obtain ⟨oi, hi⟩ := Option.isSome_iff_exists.1 hi
    have hr : i ∈ Region.ready md ops listed := by simpa using hr
    have hil : i ≠ last := by simpa using hil
    simp only [wpO] at h
    rcases Bool.or_eq_true _ _ ▸ hf with hf | hf
    · obtain ⟨hq, hfree⟩ := freeL_spec hi hf
      obtain ⟨v, hy, hk⟩ := h.ly hi hq
      exact LAnyB.first hlast hQ hi hil hq l.length listed a hfree hcl hr hy (wpO_anyB hlast hQ l _ _ (hcl.step hr) hB' hk)
    · have hf : Region.ready md ops listed = [i] := by simpa using hf
      refine ⟨fun e => (by rw [hf] at e; cases e), fun j hj => ?_⟩
      rw [hf] at hj
      have : j = i := by simpa using hj
      subst this
      exact h.mono fun a k => wpO_anyB hlast hQ l _ _ (hcl.step hr) hB' k
theorem Good.drew1 {a : AS} (g : Good E w I G a.h) : Good E { w with drawn := w.drawn + 1 } I G a.h := g.drew _ rfl
/-- A region that draws its order, whose last operation waits for all others: that one by hand. -/
theorem SW.regionLast (S : Specs E) {id : Nat} {l : List Oper} {o : Oper} {Q : Exit → AS → Prop} {a : AS} (ls : List Nat) (hm : E.P.follows .mixedOrders = true) (hlen : ls.length + 1 = l.length) (hlast : lastB .any l.toArray ls.length = true) (ho : l[ls.length]? = some o)
    (hord : ordOKB S .any l.toArray ls.length ls (Array.replicate l.length false) = true) (h : wpO E S l.toArray ls (SWO E l.toArray [o] Q) a) : SW E (.region id l.toArray true) Q a := by
  intro w I G act g r
  refine wp_region_any hm ?_
  have h1 : wpO E S l.toArray ls (fun b => ∃ c, AEq c b ∧ SWO E l.toArray [o] Q c) a := wpO.mono (fun c k => ⟨c, .refl c, k⟩) _ h
  have h2 := wpO_anyB (md := .any) hlast (fun a b e ⟨c, hc, k⟩ => ⟨c, hc.trans e, k⟩) _ _ _ (Closed.start _ _ _) hord h1
  have hk : Keeps w I { w with drawn := w.drawn + 1 } I := fun k hk => ⟨hk, rfl⟩
  have r' : RS E { w with drawn := w.drawn + 1 } I a act := r.keeps hk
  have h3 := LAnyB.sound (by simpa using ho) (fun _ h => h) _ h2 (g.drew1 (a := a)) r' (w0 := w) (I0 := I) (G0 := G) (h0 := a.h) ⟨rfl, rfl, rfl, Nat.le_refl _, fun _ _ a b => ⟨rfl, a, b⟩, fun _ h => h, fun _ _ _ _ h => h, fun _ => Nat.le_succ _⟩
  have hsz : l.toArray.size = ls.length + 1 := by rw [hlen]; simp
  rw [hsz]
  rw [← hlen] at h3
  exact h3
/-- A slice of one's own, or an empty one without room, is let go: it is a list. -/
theorem SW.own_letC {c : Code} {Q : Exit → AS → Prop} {a : AS} {h0 : Heap} (t : Nat) {e : TypeId} {sz : Nat} {xs : List (List PV)} {v : PV} (hv : a.get t = v) (hown : OwnC h0 e sz xs v a.h) (k : SW E c Q { a.put (some t) (.list sz xs) with h := h0 }) : SW E c Q a := by
  rcases hown with ⟨rfl, rfl, hh⟩ | hown
  · intro w I G act g r
    have hs := r.slot t
    rw [hv] at hs
    obtain ⟨A, hs⟩ : ∃ A, act.tmps.getD t undef = .slice A 0 0 := hs
    have r' := r.set t (.list sz []) (by rw [hs]; show R1 w I _ _; simp only [R1]; exact ⟨A, 0, [], rfl, Nat.le_refl _, by simp [maxLen], by simp [RE], fun h => absurd rfl h⟩) h0
    have := k w I G act (by show Good E w I G h0; rw [← hh]; exact g) r'
    simp only at this
    rw [hh]
    exact this
  · exact SW.own_let t hv hown k
end
/-- What stands in one heap stands in another. -/
def Inc (h h' : Heap) : Prop := ∀ k X, h k = some X → h' k = some X
theorem Inc.to {E : Env} {h h' : Heap} (i : Inc h h') : HTo E h' h := HTo.of fun k X e => i k X e
theorem Inc.put {h h' : Heap} (i : Inc h h') {r : Nat} (hr : h' r = none) (X : AObj) : Inc h (h'.put r X) := fun k Y e => by
  rw [Heap.put_ne _ _ (by rintro rfl; rw [i _ _ e] at hr; cases hr)]; exact i k Y e
theorem Own.putx {h0 H : Heap} {e : TypeId} {sz : Nat} {xs : List (List PV)} {v : PV} (o : Own h0 e sz xs v H) {r : Nat} (hr : H r = none) (X : AObj) : Own (h0.put r X) e sz xs v (H.put r X) := by
  rcases o with ⟨rfl, rfl, rfl⟩ | ⟨r0, cap, h1, h2, h3, h4, h5, h6⟩
  · exact .inl ⟨rfl, rfl, rfl⟩
  · subst h5
    have hne : r ≠ r0 := by rintro rfl; rw [Heap.put_same] at hr; cases hr
    refine .inr ⟨r0, cap, h1, h2, h3, ?_, ?_, h6⟩
    · rw [Heap.put_ne _ _ (fun e => hne e.symm)]; exact h4
    · rw [Heap.put_comm _ _ _ (fun e => hne e.symm)]
theorem Own.inc {h0 H : Heap} {e : TypeId} {sz : Nat} {xs : List (List PV)} {v : PV} (o : Own h0 e sz xs v H) : Inc h0 H := by
  rcases o with ⟨_, _, rfl⟩ | ⟨r0, cap, h1, h2, h3, h4, rfl, h6⟩
  · exact fun k X e => e
  · exact fun k X e => by rw [Heap.put_ne _ _ (by rintro rfl; rw [h4] at e; cases e)]; exact e
theorem LetGo.nil {E : Env} (H : Heap) (sz : Nat) : LetGo E H (.val (.slice none 0 0)) H (.list sz []) := fun w I G g => ⟨I, G, g, .refl .., fun _ h => ⟨h, rfl⟩, fun u hu => by
  have hu : u = _ := R_val hu
  subst hu
  show R1 _ _ _ _
  simp only [R1]
  exact ⟨none, 0, [], rfl, Nat.le_refl _, by simp [maxLen], by simp [RE], fun h => absurd rfl h⟩⟩
/-- A world whose old blocks stand. -/
theorem Good.belowD {E : Env} {w w' : World} {I : Nat → Prop} {G : Nat → Option Nat} {h : Heap} (g : Good E w I G h) (b : Below w.heap.size w w') (hd : w.drawn ≤ w'.drawn) : Good E w' I G h ∧ Stp E.mono w I G h w' I G h := by
  have hk : Keeps w I w' I := fun k hk => ⟨hk, b.block k (g.imm k hk)⟩
  refine ⟨⟨fun r o e => ?_, fun k r e => ?_, fun k e => Nat.lt_of_lt_of_le (g.imm k e) b.size, fun g0 cs e => R1.keeps hk _ _ (g.glob g0 cs e), E.keepW _ _ _ _ hk g.inv⟩, ⟨b.os, b.tape, b.output, b.size, fun k hk a c => ⟨b.block k hk, a, c⟩, fun _ h => h, fun _ _ _ _ h => h, fun _ => hd⟩⟩
  · obtain ⟨k1, k2, k3, k4⟩ := g.own r o e
    exact ⟨Nat.lt_of_lt_of_le k1 b.size, k2, k3, k4.keeps hk (b.block r k1) fun k hG => ⟨hG, b.block k (g.hid k r hG).1⟩⟩
  · obtain ⟨k1, k2, k3, k4⟩ := g.hid k r e
    exact ⟨Nat.lt_of_lt_of_le k1 b.size, k2, k3, k4⟩
/-- Whatever follows from the one state follows from the other. -/
def LeadsTo (E : Env) (n : Nat) (l : List (Nat × PV)) (H : Heap) (a : AS) : Prop := ∀ C Q, SW E C Q ⟨n, l, H⟩ → SW E C Q a
theorem SWO.leads {E : Env} {ops : Array Oper} {rest : List Oper} {C : Code} {Q : Exit → AS → Prop} {a : AS} (n : Nat) (l : List (Nat × PV)) (H : Heap) (h : SWO E ops rest (thenQ (LeadsTo E n l H) Q) a) (k : SW E C Q ⟨n, l, H⟩) : SWO E ops rest (thenQ (SW E C Q) Q) a :=
  h.mono fun e b q => by
    cases e <;> first | exact q C Q k | exact q
end Go.Proofs.YtincpomenogppaaDoor.Lift

namespace Go.Proofs.YtincpomenogppaaDoor.Lift
open Go Go.RowKit
section
variable {E : Env} {S : Specs E} {md : Region.Mode} {ops : Array Oper} {w w1 w' : World} {I I1 I' : Nat → Prop} {G G1 G' : Nat → Option Nat} {h h' : Heap}

def LAnyD (E : Env) (S : Specs E) (md : Region.Mode) (ops : Array Oper) (L1 : Array Bool) (last : Nat) (Q : AS → Prop) : Nat → Array Bool → AS → Prop
  | 0, listed, a => listed = L1 ∧ Region.ready md ops listed = [last] ∧ Q a
  | fuel + 1, listed, a => Region.ready md ops listed ≠ [] ∧ ∀ i ∈ Region.ready md ops listed, LOp E S ops i (LAnyD E S md ops L1 last Q fuel (listed.setIfInBounds i true)) a
theorem AEq.lanyD {L1 : Array Bool} {last : Nat} {Q : AS → Prop} (hQ : ∀ a b, AEq a b → Q a → Q b) : ∀ (fuel : Nat) {listed : Array Bool} {a b : AS}, AEq a b → LAnyD E S md ops L1 last Q fuel listed a → LAnyD E S md ops L1 last Q fuel listed b
  | 0, _, _, _, e, h => ⟨h.1, h.2.1, hQ _ _ e h.2.2⟩
  | fuel + 1, _, _, _, e, h => ⟨h.1, fun i hi => e.lop (fun _ _ e h => AEq.lanyD hQ fuel e h) (h.2 i hi)⟩
/-- What the rest of a region must do, from a state on. -/
def RestOK (E : Env) (md : Region.Mode) (ops : Array Oper) (R : Exit → AS → Prop) (f : Nat) (listed : Array Bool) (a : AS) : Prop :=
  ∀ w I G act, Good E w I G a.h → RS E w I a act → ∀ w0 I0 G0 h0, Stp E.mono w0 I0 G0 h0 w I G a.h → wpAny E.P md ops (Post E w0 I0 G0 h0 R) f listed act w
theorem LAnyD.sound {L1 : Array Bool} {last f : Nat} {o : Oper} (ho : ops[last]? = some o) {Q N : AS → Prop} {R : Exit → AS → Prop} (hQ : ∀ a, Q a → ∃ c, AEq c a ∧ SWO E ops [o] (thenQ N R) c) (hN : ∀ a, N a → RestOK E md ops R f (L1.setIfInBounds last true) a) :
    ∀ (fuel : Nat) {listed : Array Bool} {a : AS}, LAnyD E S md ops L1 last Q fuel listed a → RestOK E md ops R (fuel + (f + 1)) listed a
  | 0, listed, a, h => by
    obtain ⟨rfl, h1, h3⟩ := h
    intro w I G act g r w0 I0 G0 h0 s
    rw [Nat.zero_add]
    refine ⟨fun e => (by rw [h1] at e; cases e), fun i hi => ?_⟩
    rw [h1] at hi
    obtain rfl : i = last := by simpa using hi
    obtain ⟨c, hc, hs⟩ := hQ a h3
    have gc : Good E w I G c.h := by rw [hc.2.1]; exact g
    have rc : RS E w I c act := r.same hc.1 hc.2.2
    have h4 := hs w I G act gc rc
    have s2 : Stp E.mono w0 I0 G0 h0 w I G c.h := by rw [hc.2.1]; exact s
    unfold wpList at h4
    unfold wpOp
    rw [ho]
    dsimp only
    have k1 : ∀ act' w', wpList E.P ops (Post E w I G c.h (thenQ N R)) [] act' w' → wpAny E.P md ops (Post E w0 I0 G0 h0 R) f (listed.setIfInBounds i true) act' w' := fun act' w' ⟨b, I', G', g', r', s', q⟩ =>
      hN b q w' I' G' act' g' r' w0 I0 G0 h0 (s2.trans s')
    have k2 : ∀ e act' w', e ≠ .normal → Post E w I G c.h (thenQ N R) e act' w' → Post E w0 I0 G0 h0 R e act' w' := fun e act' w' hne ⟨b, I', G', g', r', s', q⟩ => by
      refine ⟨b, I', G', g', r', s2.trans s', ?_⟩
      cases e <;> first | exact absurd rfl hne | exact q
    split
    · rename_i hw
      rw [if_pos hw] at h4
      rcases h4 with h4 | ⟨h5, a', w', h6⟩
      · exact .inl (upon_mono_but k1 k2 h4)
      · exact .inr ⟨h5, a', w', k2 _ _ _ (fun e => by cases e) h6⟩
    · rename_i hw
      rw [if_neg hw] at h4
      exact k1 _ _ h4
  | fuel + 1, listed, a, h => by
    intro w I G act g r w0 I0 G0 h0 s
    rw [Nat.add_right_comm]
    refine ⟨fun e => absurd e h.1, fun i hi => ?_⟩
    have h1 := h.2 i hi
    unfold LOp at h1
    unfold wpOp
    split
    · rename_i e
      rw [e] at h1
      exact LAnyD.sound ho hQ hN fuel h1 w I G act g r w0 I0 G0 h0 s
    · rename_i o e
      rw [e] at h1
      obtain ⟨hd, h1⟩ := h1
      cases hw : wantedA ops a o with
      | none => rw [hw] at h1; simp at h1
      | some b =>
        rw [hw] at h1
        cases b with
        | true =>
          rw [if_pos rfl] at h1
          rw [if_pos (r.wanted hw)]
          exact .inl (step1_wp hd h1 g r fun a' act' w' I' G' g' r' s' k => LAnyD.sound ho hQ hN fuel k w' I' G' act' g' r' w0 I0 G0 h0 (s.trans s'))
        | false =>
          rw [if_neg (by simp), if_pos rfl] at h1
          rw [if_neg (by rw [r.wanted hw]; simp)]
          have hh : (a.put o.dst (.tuple [])).h = a.h := put_h a _ _
          exact LAnyD.sound ho hQ hN fuel h1 w I G _ (by rw [hh]; exact g) (r.put hd ⟨[], rfl, rfl⟩) w0 I0 G0 h0 (by rw [hh]; exact s)
/-- The operation waits for each of these. -/
def waitsB (md : Region.Mode) (ops : Array Oper) (l : List Nat) (last : Nat) : Bool := l.all fun i => waits md ops i ops.size last
theorem LAnyD.first {L1 : Array Bool} {last : Nat} {Q : AS → Prop} (hQ : ∀ a b, AEq a b → Q a → Q b) {i : Nat} {oi : Oper} {v : PV} (hi : ops[i]? = some oi) (hw0 : waits md ops i ops.size last = true) (hq : quietOp S oi.op = true) :
    ∀ (fuel : Nat) (listed : Array Bool) (a : AS),
      (∀ j oj, ops[j]? = some oj → j ≠ i → listed.getD j true = false → waits md ops i ops.size j = false → oi.apart ops oj = true ∧ (isLoad oi.op && hxOp S oj.op) = false) →
      Closed md ops listed → i ∈ Region.ready md ops listed → LY E S ops oi v a →
      LAnyD E S md ops L1 last Q fuel (listed.setIfInBounds i true) (a.put oi.dst v) → LAnyD E S md ops L1 last Q (fuel + 1) listed a := by
  intro fuel
  induction fuel with
  | zero =>
    intro listed a _ hcl hr hy H
    refine ⟨fun h => (by rw [h] at hr; cases hr), fun j hj => ?_⟩
    by_cases hji : j = i
    · subst hji; exact hy.lop hi hq H
    · have h1 := ready_mono hj hji
      rw [H.2.1] at h1
      obtain rfl : j = last := by simpa using h1
      obtain ⟨_, oj, hoj, hall⟩ := mem_ready.1 hj
      have hi0 : listed.getD i false = false := by
        have h0 := (mem_ready.1 hr).1
        rcases Nat.lt_or_ge i listed.size with h' | h'
        · simp [h'] at h0 ⊢; exact h0
        · simp [Array.getElem?_eq_none h'] at h0
      rw [waits_no hcl hi0 _ _ _ hoj hall] at hw0
      cases hw0
  | succ fuel ih =>
    intro listed a hfree hcl hr hy H
    refine ⟨fun h => (by rw [h] at hr; cases hr), fun j hj => ?_⟩
    by_cases hji : j = i
    · subst hji; exact hy.lop hi hq H
    · have h1 := H.2 j (ready_mono hj hji)
      obtain ⟨hjun, oj, hoj, hall⟩ := mem_ready.1 hj
      have hi0 : listed.getD i false = false := by
        have h0 := (mem_ready.1 hr).1
        rcases Nat.lt_or_ge i listed.size with h' | h'
        · simp [h'] at h0 ⊢; exact h0
        · simp [Array.getElem?_eq_none h'] at h0
      have hnot : waits md ops i ops.size j = false := waits_no hcl hi0 _ _ _ hoj hall
      obtain ⟨hap, hls⟩ := hfree j oj hoj hji hjun hnot
      have h2 := LOp.past (fun _ _ e k => AEq.lanyD hQ fuel e k) hoj hap hls hy h1
      have hfree' : ∀ k ok, ops[k]? = some ok → k ≠ i → (listed.setIfInBounds j true).getD k true = false →
          waits md ops i ops.size k = false → oi.apart ops ok = true ∧ (isLoad oi.op && hxOp S ok.op) = false := fun k ok hk hki hun hno => by
        refine hfree k ok hk hki ?_ hno
        by_cases hjk : j = k
        · subst hjk; exact hjun
        · rw [getD_set_ne true hjk] at hun; exact hun
      refine LOp.mono (fun a' h3 => ih (listed.setIfInBounds j true) a' hfree' (hcl.step (ready_mono hj hji |> fun _ => hj)) (ready_mono hr (Ne.symm hji)) h3.1 ?_) h2
      rw [Array.setIfInBounds_comm _ _ hji]
      exact h3.2
def markL (l : List Nat) (listed : Array Bool) : Array Bool := l.foldl (fun L i => L.setIfInBounds i true) listed
/-- May a region be walked in this order up to an operation that stands alone? -/
def ordOKD (S : Specs E) (md : Region.Mode) (ops : Array Oper) (last : Nat) : List Nat → Array Bool → Bool
  | [], listed => Region.ready md ops listed == [last]
  | i :: l, listed => (Region.ready md ops listed).contains i && (ops[i]?).isSome && (freeL S md ops listed i || Region.ready md ops listed == [i]) && ordOKD S md ops last l (listed.setIfInBounds i true)
theorem wpO_anyD {last : Nat} {L1 : Array Bool} {Q : AS → Prop} (hQ : ∀ a b, AEq a b → Q a → Q b) : ∀ (l : List Nat) (listed : Array Bool) (a : AS), markL l listed = L1 → waitsB md ops l last = true → Closed md ops listed → ordOKD S md ops last l listed = true → wpO E S ops l Q a → LAnyD E S md ops L1 last Q l.length listed a
  | [], listed, a, hm, _, _, hB, h => ⟨hm, by simpa [ordOKD] using hB, h⟩
  | i :: l, listed, a, hm, hwb, hcl, hB, h => by
    simp only [ordOKD, Bool.and_eq_true] at hB
    simp only [waitsB, List.all_cons, Bool.and_eq_true] at hwb
    obtain ⟨⟨⟨hr, hi⟩, hf⟩, hB'⟩ := hB
    obtain ⟨oi, hi⟩ := Option.isSome_iff_exists.1 hi
    have hr : i ∈ Region.ready md ops listed := by simpa using hr
    simp only [wpO] at h
    rcases Bool.or_eq_true _ _ ▸ hf with hf | hf
    · obtain ⟨hq, hfree⟩ := freeL_spec hi hf
      obtain ⟨v, hy, hk⟩ := h.ly hi hq
      exact LAnyD.first hQ hi hwb.1 hq l.length listed a hfree hcl hr hy (wpO_anyD hQ l _ _ hm hwb.2 (hcl.step hr) hB' hk)
    · have hf : Region.ready md ops listed = [i] := by simpa using hf
      refine ⟨fun e => (by rw [hf] at e; cases e), fun j hj => ?_⟩
      rw [hf] at hj
      have : j = i := by simpa using hj
      subst this
      exact h.mono fun a k => wpO_anyD hQ l _ _ hm hwb.2 (hcl.step hr) hB' k
theorem Closed.marks {listed : Array Bool} (hcl : Closed md ops listed) : ∀ {l : List Nat} {last : Nat}, ordOKD S md ops last l listed = true → Closed md ops (markL l listed) ∧ Region.ready md ops (markL l listed) = [last]
  | [], last, h => ⟨hcl, by simpa [ordOKD, markL] using h⟩
  | i :: l, last, h => by
    simp only [ordOKD, Bool.and_eq_true] at h
    have hr : i ∈ Region.ready md ops listed := by simpa using h.1.1.1
    exact Closed.marks (hcl.step hr) h.2
/-- The parts of a region: operations in bulk, then one by hand. -/
def chainB (S : Specs E) (md : Region.Mode) (ops : Array Oper) : List (List Nat × Nat) → List Nat → Array Bool → Bool
  | [], l, listed => ordOK S md ops l listed
  | (l, last) :: segs, lf, listed => waitsB md ops l last && (ops[last]?).isSome && ordOKD S md ops last l listed && chainB S md ops segs lf ((markL l listed).setIfInBounds last true)
def wpChain (E : Env) (S : Specs E) (ops : Array Oper) (Q : Exit → AS → Prop) : List (List Nat × Nat) → List Nat → AS → Prop
  | [], l, a => wpO E S ops l (Q .normal) a
  | (l, last) :: segs, lf, a => wpO E S ops l (SWO E ops (ops[last]?).toList (thenQ (wpChain E S ops Q segs lf) Q)) a
def chainN : List (List Nat × Nat) → List Nat → Nat
  | [], l => l.length
  | (l, _) :: segs, lf => l.length + (chainN segs lf + 1)
theorem wpChain_ok {Q : Exit → AS → Prop} : ∀ (segs : List (List Nat × Nat)) (lf : List Nat) (listed : Array Bool) (a : AS), Closed md ops listed → chainB S md ops segs lf listed = true → wpChain E S ops Q segs lf a → RestOK E md ops Q (chainN segs lf) listed a
  | [], lf, listed, a, hcl, hB, h => by
    intro w I G act g r w0 I0 G0 h0 s
    have h1 : wpO E S ops lf (fun b => ∃ c, AEq c b ∧ Q .normal c) a := wpO.mono (fun c k => ⟨c, .refl c, k⟩) _ h
    have h2 := wpO_any (md := md) (fun a b e ⟨c, hc, k⟩ => ⟨c, hc.trans e, k⟩) _ _ _ hcl hB h1
    have h3 := LAny.sound _ h2 g r s
    refine wpAny_mono_post ?_ _ _ _ _ h3
    rintro e act' w' ⟨b, I', G', gb, rb, sb, rfl, c, hc, k⟩
    exact ⟨c, I', G', by rw [hc.2.1]; exact gb, rb.same hc.1 hc.2.2, by rw [hc.2.1]; exact sb, k⟩
  | (l, last) :: segs, lf, listed, a, hcl, hB, h => by
    simp only [chainB, Bool.and_eq_true] at hB
    obtain ⟨⟨⟨b1, b2⟩, b3⟩, b4⟩ := hB
    obtain ⟨o, ho⟩ := Option.isSome_iff_exists.1 b2
    simp only [wpChain, ho, Option.toList_some] at h
    have h1 : wpO E S ops l (fun b => ∃ c, AEq c b ∧ SWO E ops [o] (thenQ (wpChain E S ops Q segs lf) Q) c) a := wpO.mono (fun c k => ⟨c, .refl c, k⟩) _ h
    have h2 := wpO_anyD (md := md) (last := last) (fun a b e ⟨c, hc, k⟩ => ⟨c, hc.trans e, k⟩) l listed a rfl b1 hcl b3 h1
    obtain ⟨hc2, hr2⟩ := hcl.marks b3
    have hcl2 : Closed md ops ((markL l listed).setIfInBounds last true) := hc2.step (by rw [hr2]; simp)
    exact LAnyD.sound ho (fun a h => h) (fun b hb => wpChain_ok segs lf _ b hcl2 b4 hb) l.length h2
/-- A region that draws its order, cut into parts. -/
theorem SW.regionChain (S : Specs E) {id : Nat} {l : List Oper} {Q : Exit → AS → Prop} {a : AS} (segs : List (List Nat × Nat)) (lf : List Nat) (hm : E.P.follows .mixedOrders = true) (hlen : chainN segs lf = l.length) (hB : chainB S .any l.toArray segs lf (Array.replicate l.length false) = true)
    (h : wpChain E S l.toArray Q segs lf a) : SW E (.region id l.toArray true) Q a := by
  intro w I G act g r
  refine wp_region_any hm ?_
  have hk : Keeps w I { w with drawn := w.drawn + 1 } I := fun k hk => ⟨hk, rfl⟩
  have r' : RS E { w with drawn := w.drawn + 1 } I a act := r.keeps hk
  have h3 := wpChain_ok (md := .any) segs lf _ a (Closed.start _ _ _) hB h { w with drawn := w.drawn + 1 } I G act (g.drew1 (a := a)) r' w I G a.h ⟨rfl, rfl, rfl, Nat.le_refl _, fun _ _ a b => ⟨rfl, a, b⟩, fun _ h => h, fun _ _ _ _ h => h, fun _ => Nat.le_succ _⟩
  have hsz : l.toArray.size = l.length := by simp
  rw [hlen] at h3
  rw [hsz]
  exact h3
/-! ### Great regions: who waits for whom, by a table -/
def wtabL (md : Region.Mode) (i : Nat) : List Oper → Array Bool → Array Bool
  | [], acc => acc
  | o :: l, acc => wtabL md i l (acc.push (o.after.any fun e => Region.binds md e && (e.on == i || acc.getD e.on false)))
theorem wtab_ok {i : Nat} : ∀ (l : List Oper) (acc : Array Bool), (∀ k, l[k]? = ops[acc.size + k]?) → (∀ j, acc.getD j false = true → ∀ n, j < n → waits md ops i n j = true) →
    ∀ j, (wtabL md i l acc).getD j false = true → ∀ n, j < n → waits md ops i n j = true
  | [], acc, _, h, j, hj, n, hn => h j hj n hn
  | o :: l, acc, ha, h, j, hj, n, hn => by
    unfold wtabL at hj
    refine wtab_ok l _ (fun k => ?_) (fun x hx m hm => ?_) j hj n hn
    · rw [Array.size_push, Nat.add_assoc, Nat.add_comm 1 k, ← ha (k + 1)]
      rfl
    · have hsz : x < (acc.push (o.after.any fun e => Region.binds md e && (e.on == i || acc.getD e.on false))).size := by
        rcases Nat.lt_or_ge x (acc.push (o.after.any fun e => Region.binds md e && (e.on == i || acc.getD e.on false))).size with k | k
        · exact k
        · rw [Array.getD_eq_getD_getElem?, Array.getElem?_eq_none k] at hx; cases hx
      rw [Array.size_push] at hsz
      by_cases hxa : x < acc.size
      · refine h x ?_ m hm
        rw [Array.getD_eq_getD_getElem?, Array.getElem?_push, if_neg (by omega)] at hx
        rw [Array.getD_eq_getD_getElem?]
        exact hx
      · obtain rfl : x = acc.size := by omega
        rw [Array.getD_eq_getD_getElem?, Array.getElem?_push, if_pos rfl, Option.getD_some, Array.any_eq_true'] at hx
        obtain ⟨e, he, hb⟩ := hx
        obtain ⟨m, rfl⟩ : ∃ q, m = q + 1 := ⟨m - 1, by omega⟩
        have ho : ops[acc.size]? = some o := by
          have := ha 0
          rw [Nat.add_zero] at this
          rw [← this]; rfl
        unfold waits
        rw [ho]
        dsimp only
        rw [Array.any_eq_true']
        refine ⟨e, he, ?_⟩
        simp only [Bool.and_eq_true, Bool.or_eq_true, beq_iff_eq] at hb ⊢
        refine ⟨hb.1, hb.2.imp id fun hw => ?_⟩
        have hlt : e.on < acc.size := by
          rcases Nat.lt_or_ge e.on acc.size with k | k
          · exact k
          · rw [Array.getD_eq_getD_getElem?, Array.getElem?_eq_none k] at hw; cases hw
        exact h _ hw m (by omega)
def freeT (S : Specs E) (md : Region.Mode) (ops : Array Oper) (listed : Array Bool) (i : Nat) : Bool :=
  match ops[i]? with
  | none => false
  | some oi => quietOp S oi.op && (List.range ops.size).all fun j => j == i || listed.getD j true || match ops[j]? with
      | some oj => (oi.apart ops oj && !(isLoad oi.op && hxOp S oj.op)) || (wtabL md i ops.toList #[]).getD j false
      | none => true
theorem freeT_ok {listed : Array Bool} {i : Nat} (h : freeT S md ops listed i = true) : freeL S md ops listed i = true := by
  unfold freeT at h
  unfold freeL
  split
  · rename_i e; rw [e] at h; exact h
  · rename_i oi e
    rw [e] at h
    simp only [Bool.and_eq_true, List.all_eq_true, List.mem_range] at h ⊢
    refine ⟨h.1, fun j hj => ?_⟩
    have h1 := h.2 j hj
    simp only [Bool.or_eq_true] at h1 ⊢
    refine h1.imp id fun h2 => ?_
    cases ej : ops[j]? with
    | none => rfl
    | some oj =>
      rw [ej] at h2
      dsimp only at h2 ⊢
      rw [Bool.or_eq_true] at h2 ⊢
      rcases h2 with h2 | h2
      · exact .inr h2
      · exact .inl (wtab_ok (ops := ops) ops.toList #[] (fun k => by simp) (fun x hx => by simp at hx) j h2 _ hj)
def ordOKT (S : Specs E) (md : Region.Mode) (ops : Array Oper) : List Nat → Array Bool → Bool
  | [], listed => (Region.ready md ops listed).isEmpty
  | i :: l, listed => (Region.ready md ops listed).contains i && (ops[i]?).isSome && (freeT S md ops listed i || Region.ready md ops listed == [i]) && ordOKT S md ops l (listed.setIfInBounds i true)
theorem ordOKT_ok : ∀ {l : List Nat} {listed : Array Bool}, ordOKT S md ops l listed = true → ordOK S md ops l listed = true
  | [], _, h => h
  | i :: l, listed, h => by
    simp only [ordOKT, Bool.and_eq_true, Bool.or_eq_true] at h
    simp only [ordOK, Bool.and_eq_true, Bool.or_eq_true]
    exact ⟨⟨h.1.1, h.1.2.imp freeT_ok id⟩, ordOKT_ok h.2⟩
/-- A great region that draws its order. -/
theorem SW.regionAnyT (S : Specs E) {id : Nat} {l : List Oper} {Q : Exit → AS → Prop} {a : AS} (ls : List (List Nat)) (hm : E.P.follows .mixedOrders = true) (hlen : ls.flatten.length = l.length) (hord : ordOKT S .any l.toArray ls.flatten (Array.replicate l.length false) = true)
    (h : wpOL E S l.toArray ls (Q .normal) a) : SW E (.region id l.toArray true) Q a := SW.regionAny S ls hm hlen (ordOKT_ok hord) h
end
end Go.Proofs.YtincpomenogppaaDoor.Lift

namespace Go.Proofs.YtincpomenogppaaDoor.Lift
open Go

/-- A shape: numbers, texts, slices of a shape, structs (their fields in turn). -/
inductive Sh where
  | int (k : IntKind) | bool | str | slice (s : Sh) | struct (r : Sh) | fnil | fcons (s r : Sh)
def Sh.width : Sh → Nat
  | .int _ | .bool | .str | .slice _ => 1
  | .struct r => r.width
  | .fnil => 0
  | .fcons s r => s.width + r.width
mutual
/-- A type is of a shape. -/
def HasSh (P : Program) : Sh → TypeId → Prop
  | .int k, t => P.underlying t = some (.int k)
  | .bool, t => P.underlying t = some .bool
  | .str, t => P.underlying t = some .string
  | .slice s, t => ∃ e, P.underlying t = some (.slice e) ∧ P.cellsOf e = s.width ∧ 0 < s.width ∧ HasSh P s e
  | .struct r, t => ∃ fs, P.underlying t = some (.struct fs) ∧ P.cellsOf t = r.width ∧ HasF P r fs.toList 0
  | .fnil, _ => False
  | .fcons _ _, _ => False
def HasF (P : Program) : Sh → List Field → Nat → Prop
  | .fnil, [], _ => True
  | .fcons s r, f :: fs, off => f.offset = off ∧ P.cellsOf f.type = s.width ∧ HasSh P s f.type ∧ HasF P r fs (off + s.width)
  | _, _, _ => False
end
/-- Cells are of a shape. -/
def VSh : Sh → List PV → Prop
  | .int k, cs => ∃ n, cs = [.int k n] ∧ (Lit.int k n).wf = true
  | .bool, cs => ∃ b, cs = [.bool b]
  | .str, cs => ∃ l, cs = [.str l] ∧ l.length ≤ maxLen
  | .slice s, cs => ∃ xs, cs = [.list s.width xs] ∧ xs.length ≤ maxLen ∧ ∀ x ∈ xs, VSh s x
  | .struct r, cs => VSh r cs
  | .fnil, cs => cs = []
  | .fcons s r, cs => ∃ a b, cs = a ++ b ∧ VSh s a ∧ VSh r b
section
variable {H : Type} {enc : TypeId × Value → H} {P : Program} {w : World} {sp : Nat → Bool} {held : Bool}
theorem RE_each {I : Nat → Prop} {sz : Nat} : ∀ (us : List (List Value)) (V : List PV → Prop), (∀ u ∈ us, u.length = sz ∧ ∃ pv, RL w I pv u ∧ V pv) → ∃ xs : List (List PV), RE w I sz xs us.flatten ∧ xs.length = us.length ∧ ∀ x ∈ xs, V x
  | [], V, _ => ⟨[], rfl, rfl, fun x hx => nomatch hx⟩
  | u :: us, V, h => by
    obtain ⟨xs, h1, h2, h3⟩ := RE_each us V (fun y hy => h y (List.mem_cons_of_mem _ hy))
    obtain ⟨hl, pv, hp, hv⟩ := h u (List.mem_cons_self ..)
    refine ⟨pv :: xs, ⟨u, us.flatten, rfl, hl, hp, h1⟩, by simp [h2], fun x hx => ?_⟩
    rcases List.mem_cons.1 hx with rfl | hx
    · exact hv
    · exact h3 x hx
theorem flat_at {α : Type} {sz : Nat} (hsz : 0 < sz) : ∀ (us : List (List α)), (∀ u ∈ us, u.length = sz) → ∀ (j : Nat) (x : α), us.flatten[j]? = some x → ∃ u, us[j / sz]? = some u ∧ u[j % sz]? = some x
  | [], _, j, x, h => by simp at h
  | u :: us, hl, j, x, h => by
    have hu := hl u (List.mem_cons_self ..)
    rw [List.flatten_cons] at h
    by_cases hj : j < sz
    · rw [List.getElem?_append_left (by omega)] at h
      rw [Nat.div_eq_of_lt hj, Nat.mod_eq_of_lt hj]
      exact ⟨u, rfl, h⟩
    · rw [List.getElem?_append_right (by omega), hu] at h
      obtain ⟨v, h1, h2⟩ := flat_at hsz us (fun y hy => hl y (List.mem_cons_of_mem _ hy)) (j - sz) x h
      have e1 : j / sz = (j - sz) / sz + 1 := by
        have : j = (j - sz) + sz := by omega
        conv => lhs; rw [this]
        rw [Nat.add_div_right _ hsz]
      have e2 : j % sz = (j - sz) % sz := by
        have : j = (j - sz) + sz := by omega
        conv => lhs; rw [this]
        rw [Nat.add_mod_right]
      rw [e1, e2]
      exact ⟨v, h1, h2⟩
theorem open_both : ∀ (s : Sh),
    (∀ t fuel cs x, HasSh P s t → DataW.trod enc P w 0 sp held fuel t cs = some x → ∃ pvs, RL w (fun b => b < w.heap.size) pvs cs ∧ VSh s pvs) ∧
    (∀ fs off n (cs : List Value), HasF P s fs off → (∀ (i : Nat) (f : Field), fs[i]? = some f → ∃ y, DataW.trod enc P w 0 sp held n f.type ((cs.drop f.offset).take (P.cellsOf f.type)) = some y) → cs.length = off + s.width → ∃ pvs, RL w (fun b => b < w.heap.size) pvs (cs.drop off) ∧ VSh s pvs)
  | .int k => ⟨fun t fuel cs x ht h => by
      obtain ⟨n, rfl, _, hw⟩ := DataW.trod_int ht h
      exact ⟨[.int k n], ⟨_, _, rfl, rfl, rfl⟩, n, rfl, hw⟩, fun fs off n cs h => by cases fs <;> exact h.elim⟩
  | .bool => ⟨fun t fuel cs x ht h => by
      obtain ⟨n, rfl, _⟩ := DataW.trod_bool ht h
      exact ⟨[.bool n], ⟨_, _, rfl, rfl, rfl⟩, n, rfl⟩, fun fs off n cs h => by cases fs <;> exact h.elim⟩
  | .str => ⟨fun t fuel cs x ht h => by
      obtain ⟨n, rfl, _, hm⟩ := DataW.trod_string ht h
      exact ⟨[.str n.data.toList], ⟨_, _, rfl, rfl, rfl⟩, n.data.toList, rfl, by rw [Array.length_toList]; exact hm⟩, fun fs off n cs h => by cases fs <;> exact h.elim⟩
  | .slice s => ⟨fun t fuel cs x ht h => by
      obtain ⟨e, he, hc, hpos, hs⟩ := ht
      rcases DataW.trod_slice he h with ⟨rfl, _⟩ | ⟨a, len, cap, elems, rest, n, _, rfl, rfl, _, hl, hm, hlen, hel, _, _⟩
      · refine ⟨[.list s.width []], ⟨_, _, rfl, ?_, rfl⟩, [], rfl, Nat.zero_le _, fun x hx => nomatch hx⟩
        simp only [R1]
        exact ⟨none, 0, [], rfl, Nat.le_refl _, by simp [maxLen], by simp [RE], fun h => absurd rfl h⟩
      · -- the cells of each element
        have each : ∀ i, i < len → ∃ u : List Value, u.length = s.width ∧ (∀ j v, u[j]? = some v → w.cell? (a.add (i * s.width + j)) = some v) ∧ ∃ pv, RL w (fun b => b < w.heap.size) pv u ∧ VSh s pv := fun i hi => by
          have h1 := hel i hi
          rw [List.getElem?_eq_getElem (by omega), Option.bind_eq_some_iff, hc] at h1
          obtain ⟨u, hu, hy⟩ := h1
          obtain ⟨_, hul, hcell⟩ := World.cells?_some hu
          refine ⟨u, hul, fun j v hj => ?_, (open_both s).1 e n u _ hs hy⟩
          have hjl := (List.getElem?_eq_some_iff.1 hj).1
          have := hcell j (by omega)
          rw [Addr.add_add] at this
          rw [this]
          rw [List.getElem?_eq_getElem hjl] at hj
          injection hj with hj
          subst hj
          simp [hjl]
        obtain ⟨f, hf⟩ : ∃ f : Nat → List Value, ∀ i, i < len → (f i).length = s.width ∧ (∀ j v, (f i)[j]? = some v → w.cell? (a.add (i * s.width + j)) = some v) ∧ ∃ pv, RL w (fun b => b < w.heap.size) pv (f i) ∧ VSh s pv :=
          ⟨fun i => if h : i < len then (each i h).choose else [], fun i hi => by simp only [hi, dif_pos]; exact (each i hi).choose_spec⟩
        obtain ⟨us, hus⟩ : ∃ us, us = (List.range len).map f := ⟨_, rfl⟩
        have hul : us.length = len := by rw [hus]; simp
        have hum : ∀ u ∈ us, u.length = s.width ∧ ∃ pv, RL w (fun b => b < w.heap.size) pv u ∧ VSh s pv := fun u hu => by
          rw [hus] at hu
          obtain ⟨i, hi, rfl⟩ := List.mem_map.1 hu
          obtain ⟨k1, _, k3⟩ := hf i (List.mem_range.1 hi)
          exact ⟨k1, k3⟩
        obtain ⟨xs, hre, hxl, hxv⟩ := RE_each us (VSh s) hum
        have hxl2 : xs.length = len := hxl.trans hul
        refine ⟨[.list s.width xs], ⟨_, _, rfl, ?_, rfl⟩, xs, rfl, by omega, hxv⟩
        simp only [R1]
        refine ⟨some a, cap, us.flatten, by rw [hxl2], by omega, hm, hre, fun hne => ?_⟩
        have cell : ∀ j v, us.flatten[j]? = some v → w.cell? (a.add j) = some v := fun j v hj => by
          obtain ⟨u, h1, h2⟩ := flat_at hpos us (fun u hu => (hum u hu).1) j v hj
          rw [hus, List.getElem?_map] at h1
          have hlt : j / s.width < len := by
            rcases Nat.lt_or_ge (j / s.width) len with k | k
            · exact k
            · rw [List.getElem?_eq_none (by rw [List.length_range]; exact k)] at h1; cases h1
          rw [List.getElem?_range hlt] at h1
          injection h1 with h1
          have := (hf _ hlt).2.1 (j % s.width) v (by rw [h1]; exact h2)
          rwa [Nat.mul_comm, Nat.div_add_mod] at this
        refine ⟨a, rfl, ?_, cell⟩
        obtain ⟨v, l, hv⟩ := List.exists_cons_of_ne_nil hne
        have := cell 0 v (by rw [hv]; rfl)
        have hb := block_lt this
        rwa [add_block] at hb, fun fs off n cs h => by cases fs <;> exact h.elim⟩
  | .struct r => ⟨fun t fuel cs x ht h => by
      obtain ⟨fs, he, hc, hF⟩ := ht
      obtain ⟨xs, m, _, _, hl, hxl, hall⟩ := DataW.trod_struct he h
      have := (open_both r).2 fs.toList 0 m cs hF (fun i f hf => by
        have hf2 : fs[i]? = some f := by simpa using hf
        have h1 := hall i f hf2
        have hi : i < xs.length := by rw [hxl]; exact (Array.getElem?_eq_some_iff.1 hf2).1
        rw [List.getElem?_eq_getElem hi] at h1
        exact ⟨_, h1⟩) (by rw [hl, hc, Nat.zero_add])
      exact this, fun fs off n cs h => by cases fs <;> exact h.elim⟩
  | .fnil => ⟨fun t fuel cs x ht h => ht.elim, fun fs off n cs h _ hl => by
      refine ⟨[], ?_, rfl⟩
      rw [List.drop_of_length_le (by rw [hl]; exact Nat.le_refl _)]
      rfl⟩
  | .fcons s r => ⟨fun t fuel cs x ht h => ht.elim, fun fs off n cs h ha hl => by
      cases fs with
      | nil => exact h.elim
      | cons f fs =>
        obtain ⟨rfl, hc, hs, hF⟩ := h
        obtain ⟨y, hy⟩ := ha 0 f rfl
        rw [hc] at hy
        obtain ⟨p1, r1, v1⟩ := (open_both s).1 _ _ _ _ hs hy
        have hw : cs.length = f.offset + s.width + r.width := by rw [hl]; show f.offset + (s.width + r.width) = _; omega
        obtain ⟨p2, r2, v2⟩ := (open_both r).2 fs (f.offset + s.width) n cs hF (fun i g hg => ha (i + 1) g hg) hw
        refine ⟨p1 ++ p2, ?_, p1, p2, rfl, v1, v2⟩
        have e : cs.drop f.offset = (cs.drop f.offset).take s.width ++ cs.drop (f.offset + s.width) := by
          rw [← List.drop_drop, List.take_append_drop]
        rw [e]
        exact r1.append r2⟩
theorem one_cell {v u : Value} (hna : ∀ cs, v ≠ .agg cs) (h : v.cells.toList = [u]) : v = u := by
  cases v with
  | agg cs => exact absurd rfl (hna cs)
  | _ => simpa [Value.cells] using h
/-- A parameter that came in. -/
theorem open_sh {s : Sh} {t : TypeId} {v : Value} {d : DataW H} {ps : List MemPlace} {r : Reach} {b0 : Nat} (hs : HasSh P s t) (hv : Value.okWide P w r b0 t v) (hd : DataW.Trod enc P w 0 sp held t v d ps) :
    ∃ pvs, VSh s pvs ∧ R0 w (fun b => b < w.heap.size) (match s with | .struct _ => .agg pvs | _ => pvs.getD 0 .any) v := by
  obtain ⟨fuel, hf⟩ := hd
  obtain ⟨pvs, h1, h2⟩ := (open_both s).1 t fuel _ _ hs hf
  refine ⟨pvs, h2, ?_⟩
  cases s with
  | struct r =>
    obtain ⟨fs, he, _⟩ := hs
    obtain ⟨xs, rfl⟩ : ∃ xs, v = .agg xs := by
      simp only [Value.okWide, he] at hv
      obtain ⟨cs, h1, _⟩ := hv
      exact ⟨cs, h1⟩
    exact ⟨xs.toList, by simp, h1⟩
  | fnil => exact hs.elim
  | fcons s r => exact hs.elim
  | int k =>
    have hna : ∀ cs, v ≠ .agg cs := fun cs e => by subst e; have hs : P.underlying t = _ := hs; simp [Value.okWide, hs, Cell.okWide, Cell.ok] at hv
    obtain ⟨n, rfl, _⟩ := h2
    obtain ⟨u, us', e, r1, r2⟩ := h1
    have r2 : us' = [] := r2
    subst r2
    rw [one_cell hna e]
    exact R0_of_R1 r1
  | bool =>
    have hna : ∀ cs, v ≠ .agg cs := fun cs e => by subst e; have hs : P.underlying t = _ := hs; simp [Value.okWide, hs, Cell.okWide, Cell.ok] at hv
    obtain ⟨n, rfl⟩ := h2
    obtain ⟨u, us', e, r1, r2⟩ := h1
    have r2 : us' = [] := r2
    subst r2
    rw [one_cell hna e]
    exact R0_of_R1 r1
  | str =>
    have hna : ∀ cs, v ≠ .agg cs := fun cs e => by subst e; have hs : P.underlying t = _ := hs; simp [Value.okWide, hs, Cell.okWide, Cell.ok] at hv
    obtain ⟨n, rfl, _⟩ := h2
    obtain ⟨u, us', e, r1, r2⟩ := h1
    have r2 : us' = [] := r2
    subst r2
    rw [one_cell hna e]
    exact R0_of_R1 r1
  | slice s =>
    have hna : ∀ cs, v ≠ .agg cs := fun cs e => by subst e; obtain ⟨_, hs, _⟩ := hs; simp [Value.okWide, hs, Cell.okWide, Cell.ok] at hv
    obtain ⟨n, rfl, _⟩ := h2
    obtain ⟨u, us', e, r1, r2⟩ := h1
    have r2 : us' = [] := r2
    subst r2
    rw [one_cell hna e]
    exact R0_of_R1 r1
end
mutual
def hasShB (P : Program) : Sh → TypeId → Bool
  | .int k, t => match P.underlying t with | some (.int k') => decide (k' = k) | _ => false
  | .bool, t => match P.underlying t with | some .bool => true | _ => false
  | .str, t => match P.underlying t with | some .string => true | _ => false
  | .slice s, t => match P.underlying t with | some (.slice e) => P.cellsOf e == s.width && decide (0 < s.width) && hasShB P s e | _ => false
  | .struct r, t => match P.underlying t with | some (.struct fs) => P.cellsOf t == r.width && hasFB P r fs.toList 0 | _ => false
  | .fnil, _ => false
  | .fcons _ _, _ => false
def hasFB (P : Program) : Sh → List Field → Nat → Bool
  | .fnil, [], _ => true
  | .fcons s r, f :: fs, off => f.offset == off && P.cellsOf f.type == s.width && hasShB P s f.type && hasFB P r fs (off + s.width)
  | _, _, _ => false
end
theorem hasB_both {P : Program} (s : Sh) :
    (∀ t, hasShB P s t = true → HasSh P s t) ∧ (∀ fs off, hasFB P s fs off = true → HasF P s fs off) := by
  induction s with
  | int k =>
    refine ⟨fun t h => ?_, fun fs off h => ?_⟩
    · unfold hasShB at h
      split at h
      · rename_i k' e; rw [of_decide_eq_true h] at e; exact e
      · cases h
    · cases fs <;> simp [hasFB] at h
  | bool =>
    refine ⟨fun t h => ?_, fun fs off h => ?_⟩
    · unfold hasShB at h
      split at h
      · rename_i e; exact e
      · cases h
    · cases fs <;> simp [hasFB] at h
  | str =>
    refine ⟨fun t h => ?_, fun fs off h => ?_⟩
    · unfold hasShB at h
      split at h
      · rename_i e; exact e
      · cases h
    · cases fs <;> simp [hasFB] at h
  | slice s ih =>
    refine ⟨fun t h => ?_, fun fs off h => ?_⟩
    · unfold hasShB at h
      split at h
      · rename_i e he
        simp only [Bool.and_eq_true, beq_iff_eq, decide_eq_true_eq] at h
        exact ⟨e, he, h.1.1, h.1.2, ih.1 e h.2⟩
      · cases h
    · cases fs <;> simp [hasFB] at h
  | struct r ih =>
    refine ⟨fun t h => ?_, fun fs off h => ?_⟩
    · unfold hasShB at h
      split at h
      · rename_i fs he
        simp only [Bool.and_eq_true, beq_iff_eq] at h
        exact ⟨fs, he, h.1, ih.2 _ _ h.2⟩
      · cases h
    · cases fs <;> simp [hasFB] at h
  | fnil =>
    refine ⟨fun t h => ?_, fun fs off h => ?_⟩
    · simp [hasShB] at h
    · cases fs with
      | nil => trivial
      | cons f fs => simp [hasFB] at h
  | fcons s r ihs ihr =>
    refine ⟨fun t h => ?_, fun fs off h => ?_⟩
    · simp [hasShB] at h
    · cases fs with
      | nil => simp [hasFB] at h
      | cons f fs =>
        unfold hasFB at h
        simp only [Bool.and_eq_true, beq_iff_eq] at h
        exact ⟨h.1.1.1, h.1.1.2, ihs.1 _ h.1.2, ihr.2 _ _ h.2⟩
theorem hasSh_of {P : Program} {s : Sh} {t : TypeId} (h : hasShB P s t = true) : HasSh P s t := (hasB_both s).1 t h
end Go.Proofs.YtincpomenogppaaDoor.Lift
