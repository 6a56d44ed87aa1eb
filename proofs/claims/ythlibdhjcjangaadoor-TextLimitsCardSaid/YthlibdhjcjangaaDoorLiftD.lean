/- Panics, and calls that wait at a function's door. -/
import Derived.Test.YthlibdhjcjangaaDoorLiftW
import Derived.Defers
import Derived.Recover
set_option linter.unusedSimpArgs false
set_option linter.unusedVariables false
namespace Go.Proofs.YthlibdhjcjangaaDoor.Lift
open Go Go.RowKit
variable {E : Env}
/-- The same program, in a function at whose door calls wait. -/
def Env.withD (E : Env) (D : List Deferred) : Env := { E with D := D }
theorem withD_ty (D : List Deferred) (t : TypeId) : (E.withD D).ty t = E.ty t := by
  have h : (E.withD D).tab = E.tab := rfl
  unfold Env.ty
  rw [h]
theorem withD_gl (D : List Deferred) : (E.withD D).gl = E.gl := by
  have h : (E.withD D).gl = E.gl := rfl
  rw [h]
theorem withD_P (D : List Deferred) : (E.withD D).P = E.P := by
  have h : (E.withD D).P = E.P := rfl
  rw [h]
variable {w w' : World} {I I' : Nat → Prop} {G G' : Nat → Option Nat} {h h' : Heap} {D : List Deferred}
theorem Good.withD (g : Good E w I G h) (D : List Deferred) : Good (E.withD D) w I G h := ⟨g.own, g.hid, g.imm, g.glob, g.inv⟩
theorem Good.noD (g : Good (E.withD D) w I G h) : Good E w I G h := ⟨g.own, g.hid, g.imm, g.glob, g.inv⟩
theorem SCalls.withD {f : FuncId} {args : List PV} {Q : SEnd → Heap → Prop} (hc : SCalls E f args h Q) (D : List Deferred) : SCalls (E.withD D) f args h Q :=
  ⟨hc.1, fun w I G vs g r => (hc.2 w I G vs g.noD r).mono fun _ _ ⟨I', G', h', g', s, q⟩ => ⟨I', G', h', g'.withD D, s, q⟩⟩
theorem XCalls.withD {f : FuncId} {args : List PV} {v : PV} (hc : XCalls E f args h v) (D : List Deferred) : XCalls (E.withD D) f args h v :=
  fun w I G vs g r => hc w I G vs g.noD r
theorem FCalls.withD {f : FuncId} {args : List PV} {v : PV} (hc : FCalls E f args h v) (D : List Deferred) : FCalls (E.withD D) f args h v := by
  exact hc.imp (fun c => c.withD D) (fun c => c.withD D)
/-- A contract, in such a function. -/
def SpecE.withD (s : SpecE E) (D : List Deferred) : SpecE (E.withD D) := ⟨s.f, s.s, fun args h hc => (s.ok args h hc).withD D⟩
def SpecH.withD (s : SpecH E) (D : List Deferred) : SpecH (E.withD D) := ⟨s.f, s.s, fun args h hc => (s.ok args h hc).withD D⟩
/-- A panic with two numbers. -/
theorem SWO.panic2 {ops : Array Oper} {o : Oper} {rest : List Oper} {Q : Exit → AS → Prop} {a : AS} (x : Operand) (hop : o.op = .panic x) {t : TypeId} {k1 k2 : IntKind} {n1 n2 : Int} (hx : a.eval E x = .iface t true [.int k1 n1, .int k2 n2]) (hg : wantedA ops a o = some true)
    (q : Q (.panic [{ v := .iface t (.agg #[.int k1 n1, .int k2 n2]), recovered := false }]) a) : SWO E ops (o :: rest) Q a := by
  intro w I G act g r
  have h1 := r.eval g x
  rw [hx] at h1
  obtain ⟨us, e1, u1, us1, rfl, hu1, u2, us2, rfl, hu2, hn⟩ := h1
  obtain rfl : us2 = [] := hn
  obtain rfl : u1 = .int k1 n1 := hu1
  obtain rfl : u2 = .int k2 n2 := hu2
  unfold wpList
  rw [if_pos (r.wanted hg)]
  refine .inl ?_
  unfold Oper.wp
  have hrun : (execOp act.eval o).run E.P w = .halt (.panic (.iface t (.agg #[.int k1 n1, .int k2 n2]))) w := by
    simp only [execOp, hop, e1, Instr.panic, ofCells, if_true]
    rfl
  rw [hrun, Oper.upon_panic]
  exact ⟨a, I, G, g, r, .refl .., q⟩
/-- What a call that waits at the door does, in a function that leaves so. -/
def DRuns (E : Env) (f : FuncId) (args : Array Value) (u u' : FrameMode) (h h' : Heap) : Prop :=
  ∀ w I G, Good E w I G h → CallsD E.P f args u w fun e u1 w' => e = .returned (.tuple #[]) ∧ u1 = u' ∧ ∃ I' G', Good E w' I' G' h' ∧ Stp w I G h w' I' G' h'
/-- What must hold behind the body of a function at whose door one call waits, which catches a panic. -/
def DPost (E : Env) (f : FuncId) (args : Array Value) (rs : List ResultVar) (Q : SEnd → Heap → Prop) : Exit → AS → Prop
  | .normal, a => DRuns E f args .returning .returning a.h a.h ∧ ∃ p, sres E a rs = some p ∧ ∃ h', HTo E a.h h' ∧ Q (.ret p) h'
  | .ret, a => DRuns E f args .returning .returning a.h a.h ∧ ∃ p, sres E a rs = some p ∧ ∃ h', HTo E a.h h' ∧ Q (.ret p) h'
  | .panic c, a => ∃ v h2, c = [{ v, recovered := false }] ∧ DRuns E f args (.panicking [{ v, recovered := false }]) (.panicking [{ v, recovered := true }]) a.h h2 ∧ ∃ p, sres E { a with h := h2 } rs = some p ∧ ∃ h', HTo E h2 h' ∧ Q (.ret p) h'
  | _, _ => False
theorem sres1_withD (a : AS) (r : ResultVar) : sres1 (E.withD D) a r = sres1 E a r := by
  cases r <;> rfl
theorem sresL_withD (a : AS) : ∀ rs, sresL (E.withD D) a rs = sresL E a rs
  | [] => rfl
  | r :: rs => by
    simp only [sresL]
    rw [sres1_withD, sresL_withD a rs]
theorem sres_withD (D : List Deferred) (a : AS) (rs : List ResultVar) : sres (E.withD D) a rs = sres E a rs := by
  unfold sres
  rw [sresL_withD]
theorem run_enter {P : Program} {fd : FuncId} {fnd : Func} {cd : Code} (hfd : P.funcs[fd]? = some fnd) (hbd : fnd.body = some cd) (hnd : (fnd.name == "runtime.NumGoroutine") = false) (caps : Array Value) (w : World) :
    (invoke (.fn (.func fd) caps) #[]).run P w = .ok (.enter fd caps) w := by
  have hne : fnd.name ≠ "runtime.NumGoroutine" := by simpa using hnd
  have e : (#[] ++ caps : Array Value) = caps := by apply Array.ext'; simp
  simp [invoke, callFunc, hfd, hbd, hne]
theorem leave1 {fd : FuncId} {fn fnd : Func} {cd : Code} {caps : Array Value} {R : Ending → World → Prop} {u u' : FrameMode} {h h2 : Heap} {tmps : Array Value} (hfd : E.P.funcs[fd]? = some fnd) (hbd : fnd.body = some cd) (hnd : (fnd.name == "runtime.NumGoroutine") = false) (hu : u ≠ .run)
    (hd : DRuns E fd caps u u' h h2) (hset : settle u' = .returning) (g : Good E w I G h)
    (k : ∀ w' I' G', Good E w' I' G' h2 → Stp w I G h w' I' G' h2 → ∃ v, (results fn tmps).run E.P w' = .ok v w' ∧ R (.returned v) w') : Leaves E.P fn tmps R [{ target := .fn (.func fd) caps, args := #[] }] u w := by
  refine leaves_cons hu (run_enter hfd hbd hnd caps w) ((hd w I G g).mono ?_)
  rintro e u1 w' ⟨rfl, rfl, I', G', g', s⟩
  show Leaves E.P fn tmps R [] (settle u1) w'
  rw [hset]
  exact k w' I' G' g' s
theorem SCalls.bodyDefer {f fd : FuncId} {fn fnd : Func} {c1 cd : Code} {id : Nat} {ops : Array Oper} {l1 : List Oper} {o : Oper} {c2 : Code} {x : Operand} {ts : Array TypeId} {args : List PV} {Q : SEnd → Heap → Prop}
    (hf : E.P.funcs[f]? = some fn) (hb : fn.body = some (.seq c1 (.seq (.region id ops false) c2))) (hn : (fn.name == "runtime.NumGoroutine") = false) (hl : args.length ≤ fn.ntmps)
    (hfd : E.P.funcs[fd]? = some fnd) (hbd : fnd.body = some cd) (hnd : (fnd.name == "runtime.NumGoroutine") = false) (hops : ops.toList = l1 ++ [o]) (hop : o.op = .defer { callee := .value x, args := #[], argTypes := ts })
    (k : SW E c1 (thenQ (SWO E ops l1 (fun e a => e = .normal ∧ ∃ caps, a.eval E x = .val (.func (.func fd) #[] caps) ∧ wantedA ops a o = some true ∧ okDst a.n o.dst = true ∧
      SW (E.withD [{ target := .fn (.func fd) caps, args := #[] }]) c2 (DPost E fd caps fn.results.toList Q) (a.put o.dst (.tuple [])))) (fun _ _ => False)) ⟨fn.ntmps, enumA 0 args, h⟩) (hD : E.D = [] := by rfl) : SCalls E f args h Q := by
  refine ⟨⟨fn, _, hf, hb, hn⟩, fun w I G vs g r => ?_⟩
  refine calls_of_wp_defers hf hb ?_
  refine wp_seq ?_
  have h0 := k w I G _ g (RS.init hD r hl)
  refine wp_mono h0 ?_
  rintro e0 act0 w0 ⟨a0, I0, G0, g0, r0, s0, q0⟩
  cases e0 with
  | exit id => exact q0.elim
  | goto l => exact q0.elim
  | ret => exact q0.elim
  | panic c => exact q0.elim
  | outgrown => exact q0.elim
  | normal =>
  refine wp_seq ?_
  have hol : ops = (l1 ++ [o]).toArray := by apply Array.ext'; rw [hops]
  have h1 := q0 w0 I0 G0 act0 g0 r0
  rw [hol] at h1 ⊢
  refine wp_region_lit (wpList_append ?_ ?_ l1 _ w0 h1)
  · rintro act w1 ⟨a, I1, G1, g1, r1, s1, _, caps, hx, hw, hd, hc2⟩
    have hx' := r1.eval g1 x
    rw [hx] at hx'
    have hx' := R_val hx'
    unfold wpList
    rw [if_pos (r1.wanted hw)]
    refine .inl ?_
    unfold Oper.wp
    have hrun : (execOp act.eval o).run E.P w1 = .ok (.defer { target := .fn (.func fd) caps, args := #[] }) w1 := by
      have e : (#[] ++ caps : Array Value) = caps := by apply Array.ext'; simp
      simp [execOp, hop, resolve, hx', Deferred.ofValue]
    rw [hrun, Oper.upon_defer]
    refine wpList_nil ?_
    show c2.wp E.P _ _ w1
    have r2 : RS (E.withD [{ target := .fn (.func fd) caps, args := #[] }]) w1 I1 (a.put o.dst (.tuple [])) ({ act with defers := { target := .fn (.func fd) caps, args := #[] } :: act.defers }.put o.dst undef) := by
      refine RS.put (E := E.withD [{ target := .fn (.func fd) caps, args := #[] }]) (a := a) (act := { act with defers := { target := .fn (.func fd) caps, args := #[] } :: act.defers }) (v := .tuple []) (u := undef) ⟨?_, r1.size, r1.slot⟩ hd ⟨[], rfl, rfl⟩
      show _ :: act.defers = _
      rw [r1.defers, hD]
      rfl
    have h2 := hc2 w1 I1 G1 _ (by rw [put_h]; exact g1.withD _) r2
    refine wp_mono h2 ?_
    rw [put_h]
    rintro e act' w' ⟨a', I', G', g', r', s', q⟩
    have hres : ∀ (h2 : Heap) (u u' : FrameMode) (p : PV) (h3 : Heap), u ≠ .run → settle u' = .returning → DRuns E fd caps u u' a'.h h2 → sres E { a' with h := h2 } fn.results.toList = some p → HTo E h2 h3 → Q (.ret p) h3 →
        Leaves E.P fn act'.tmps (CPost E w I G h Q) act'.defers u w' := by
      intro h2 u u' p h3 hu hset hdr hp hto hq
      have hdef : act'.defers = [{ target := .fn (.func fd) caps, args := #[] }] := r'.defers
      rw [hdef]
      refine leave1 hfd hbd hnd hu hdr hset g'.noD fun w3 I3 G3 g3 s3 => ?_
      have rr : RS (E.withD [{ target := .fn (.func fd) caps, args := #[] }]) w3 I3 { a' with h := h2 } act' := by
        have := r'.keeps (s3.keeps g'.noD)
        exact ⟨this.defers, this.size, this.slot⟩
      obtain ⟨u, hu, hr⟩ := sres_run (E := E.withD [{ target := .fn (.func fd) caps, args := #[] }]) (a := { a' with h := h2 }) (g3.withD _) rr (by have : sres (E.withD [{ target := .fn (.func fd) caps, args := #[] }]) { a' with h := h2 } fn.results.toList = sres E { a' with h := h2 } fn.results.toList := sres_withD _ _ _; rw [this]; exact hp)
      obtain ⟨I4, G4, g4, s4⟩ := hto _ _ _ g3
      exact ⟨u, hu, I4, G4, h3, g4, (((s0.trans s1).trans s').trans s3).trans s4, p, R.keeps (s4.keeps g3) _ _ hr, hq⟩
    cases e with
    | normal =>
      obtain ⟨hdr, p, hp, h3, hto, hq⟩ := q
      exact hres a'.h .returning .returning p h3 (fun e => by cases e) rfl hdr hp hto hq
    | ret =>
      obtain ⟨hdr, p, hp, h3, hto, hq⟩ := q
      exact hres a'.h .returning .returning p h3 (fun e => by cases e) rfl hdr hp hto hq
    | panic c =>
      obtain ⟨v, h2, rfl, hdr, p, hp, h3, hto, hq⟩ := q
      exact hres h2 _ _ p h3 (fun e => by cases e) rfl hdr hp hto hq
    | exit id => exact q.elim
    | goto l => exact q.elim
    | outgrown => exact q.elim
  · rintro e act w1 hne ⟨a, I1, G1, g1, r1, s1, he, _⟩
    exact absurd he hne
/-- A call that waits at the door and asks whether there is a panic. -/
theorem DRuns.recovers {fd : FuncId} {fn : Func} {id : Nat} {o0 o1 : Oper} {c2 : Code} {caps : Array Value} {ts : Array TypeId} {d0 d1 : Nat} {u u' : FrameMode} {x : PV} {vx : Value} {h h2 : Heap}
    (hf : E.P.funcs[fd]? = some fn) (hb : fn.body = some (.seq (.region id #[o0, o1] false) c2)) (hl : caps.toList.length ≤ fn.ntmps) (hres : fn.results = #[]) (hcaps : caps.toList.all okRaw = true)
    (h0 : o0.op = .call { callee := .builtin .recover, args := #[], argTypes := ts }) (hd0 : o0.dst = some d0) (hg0 : o0.guard = none) (h1 : o1.op = .assign (.tmp d0)) (hd1 : o1.dst = some d1) (hg1 : o1.guard = none) (hn0 : d0 < fn.ntmps) (hn1 : d1 < fn.ntmps)
    (hx : ∀ w I, R w I x vx) (hcase : (u = .returning ∧ u' = .returning ∧ vx = .nilIface) ∨ (u = .panicking [{ v := vx, recovered := false }] ∧ u' = .panicking [{ v := vx, recovered := true }]))
    (k : SW E c2 (fun e a => (e = .normal ∨ e = .ret) ∧ HTo E a.h h2) (((⟨fn.ntmps, enumA 0 (caps.toList.map ofVal), h⟩ : AS).put (some d0) x).put (some d1) x)) (hD : E.D = [] := by rfl) : DRuns E fd caps u u' h h2 := by
  intro w I G g
  refine callsD_of_wpS hf hb fun c₀ cs hm => ?_
  have hr := RS.init (E := E) hD (R0s_raw w I caps.toList hcaps) (h := h) (n := fn.ntmps) (by simpa using hl)
  have e1 : caps.toList.toArray = caps := by simp
  rw [e1] at hr
  have hr2 : RS E w I (((⟨fn.ntmps, enumA 0 (caps.toList.map ofVal), h⟩ : AS).put (some d0) x).put (some d1) x) (({ tmps := caps ++ Array.replicate (fn.ntmps - caps.size) undef, defers := [] } : Act).put (some d0) vx |>.put (some d1) vx) :=
    (hr.put (dst := some d0) (decide_eq_true hn0) (hx w I)).put (dst := some d1) (decide_eq_true hn1) (hx w I)
  have hk := k w I G _ (by rw [put_h, put_h]; exact g) hr2
  have hslot : (({ tmps := caps ++ Array.replicate (fn.ntmps - caps.size) undef, defers := [] } : Act).put (some d0) vx).eval (.tmp d0) = vx := by
    have hsz : d0 < (caps ++ Array.replicate (fn.ntmps - caps.size) undef).size := by
      have := hr.size
      have e : (caps ++ Array.replicate (fn.ntmps - caps.size) undef).size = fn.ntmps := this
      rw [e]; exact hn0
    show ((caps ++ Array.replicate (fn.ntmps - caps.size) undef).setIfInBounds d0 vx).getD d0 undef = vx
    rw [Array.getD_eq_getD_getElem?, Array.getElem?_setIfInBounds, if_pos rfl, if_pos hsz]
    rfl
  have hw : ∀ (o : Oper) tmps, o.guard = none → Region.wanted o (yielded #[o0, o1] tmps) = true := fun o tmps hg => by unfold Region.wanted; rw [hg]
  have hrec : (execOp ({ tmps := caps ++ Array.replicate (fn.ntmps - caps.size) undef, defers := [] } : Act).eval o0).run E.P w = .ok .recover w := by
    simp [execOp, h0, resolve, invoke, builtin]
  have fin : ∀ cs', (∃ u1, cs' = { c₀ with mode := u1 } :: cs ∧ u1 = u') →
      wpOpsS E.P #[o0, o1] (Exit.thenS (c2.wpS E.P (bodyPostS E.P fn c₀ cs fun e u1 w' => e = .returned (.tuple #[]) ∧ u1 = u' ∧ ∃ I' G', Good E w' I' G' h2 ∧ Stp w I G h w' I' G' h2)) (bodyPostS E.P fn c₀ cs fun e u1 w' => e = .returned (.tuple #[]) ∧ u1 = u' ∧ ∃ I' G', Good E w' I' G' h2 ∧ Stp w I G h w' I' G' h2)) [1]
        (({ tmps := caps ++ Array.replicate (fn.ntmps - caps.size) undef, defers := [] } : Act).put o0.dst vx) cs' w := by
    rintro cs' ⟨u1, rfl, rfl⟩
    unfold wpOpsS
    simp only [List.getElem?_toArray, List.getElem?_cons_succ, List.getElem?_cons_zero, hw _ _ hg1, if_true]
    have hasg : (execOp (({ tmps := caps ++ Array.replicate (fn.ntmps - caps.size) undef, defers := [] } : Act).put o0.dst vx).eval o1).run E.P w = .ok (.value vx) w := by
      rw [hd0]
      have := hslot
      simp only [execOp, h1, Sem.run_pure, this]
    simp only [hasg]
    show c2.wpS E.P _ _ _ w
    refine wpS_of_wp ?_
    rw [hd0, hd1]
    refine wp_mono hk ?_
    rw [put_h, put_h]
    rintro e act' w' ⟨a', I', G', g', r', s', he, hto⟩
    obtain ⟨I2, G2, g2, s2⟩ := hto _ _ _ g'
    have hdef : act'.defers = [] := r'.defers.trans hD
    have hrs : (results fn act'.tmps).run E.P w' = .ok (.tuple #[]) w' := by
      simp [results, hres]
    rcases he with rfl | rfl
    · exact ⟨hdef, u1, rfl, _, hrs, rfl, rfl, I2, G2, g2, s'.trans s2⟩
    · exact ⟨hdef, u1, rfl, _, hrs, rfl, rfl, I2, G2, g2, s'.trans s2⟩
  refine wpS_seq (wpS_region ?_)
  show wpOpsS E.P #[o0, o1] _ [0, 1] _ _ w
  unfold wpOpsS
  simp only [List.getElem?_toArray, List.getElem?_cons_zero, hw _ _ hg0, if_true, hrec]
  rcases hcase with ⟨rfl, rfl, rfl⟩ | ⟨rfl, rfl⟩
  · have e : recoverD (c₀ :: cs) = none := by
      unfold recoverD
      simp only [hm]
    rw [e]
    refine fin (c₀ :: cs) ⟨_, ?_, rfl⟩
    rw [← hm]
  · have e : recoverD (c₀ :: cs) = some (vx, { c₀ with mode := .panicking [{ v := vx, recovered := true }] } :: cs) := by
      unfold recoverD
      simp only [hm]
    rw [e]
    exact fin _ ⟨_, rfl, rfl⟩
end Go.Proofs.YthlibdhjcjangaaDoor.Lift

namespace Go.Proofs.YthlibdhjcjangaaDoor.Lift
open Go Go.RowKit
section
variable {E : Env} {w w1 w' : World} {I I1 I' : Nat → Prop} {G G1 G' : Nat → Option Nat} {h h' : Heap}

theorem eq_same : ∀ {ks : List CK} {x y : List PV} {us vs : List Value}, fits ks x = true → fits ks y = true → eqCells x y = true → RL w I x us → RL w I y vs → us = vs
  | [], [], [], _, _, _, _, _, h1, h2 => by
    have h1 : _ = [] := h1
    have h2 : _ = [] := h2
    rw [h1, h2]
  | [], _ :: _, _, _, _, h, _, _, _, _ => by cases h
  | [], [], _ :: _, _, _, _, h, _, _, _ => by cases h
  | c :: ks, [], _, _, _, h, _, _, _, _ => by cases c <;> cases h
  | c :: ks, _ :: _, [], _, _, _, h, _, _, _ => by cases c <;> cases h
  | c :: ks, x :: xs, y :: ys, us, vs, hx, hy, he, ⟨u, us', e1, r1, l1⟩, ⟨v, vs', e2, r2, l2⟩ => by
    subst e1; subst e2
    cases c with
    | int q =>
      cases x <;> simp [fits] at hx
      cases y <;> simp [fits] at hy
      simp only [eqCells, Bool.and_eq_true, beq_iff_eq] at he
      obtain rfl : u = _ := r1
      obtain rfl : v = _ := r2
      rw [eq_same hx.2 hy.2 he.2 l1 l2, he.1, ← hx.1, ← hy.1]
    | bool =>
      cases x <;> simp [fits] at hx
      cases y <;> simp [fits] at hy
      simp only [eqCells, Bool.and_eq_true, beq_iff_eq] at he
      obtain rfl : u = _ := r1
      obtain rfl : v = _ := r2
      rw [eq_same hx hy he.2 l1 l2, he.1]
    | str =>
      cases x <;> simp [fits] at hx
      cases y <;> simp [fits] at hy
      simp only [eqCells, Bool.and_eq_true, beq_iff_eq] at he
      obtain rfl : u = _ := r1
      obtain rfl : v = _ := r2
      rw [eq_same hx hy he.2 l1 l2, he.1]
theorem sameBits_one {c : CK} {x : PV} {xs : List PV} {ks : List CK} {u : Value} (hf : fits (c :: ks) (x :: xs) = true) (hr : R1 w I x u) (n : Nat) : Instr.sameBits n u u = true := by
  cases c with
  | int q =>
    cases x <;> simp [fits] at hf
    obtain rfl : u = _ := hr
    cases n <;> simp [Instr.sameBits]
  | bool =>
    cases x <;> simp [fits] at hf
    obtain rfl : u = _ := hr
    cases n <;> simp [Instr.sameBits]
  | str =>
    cases x <;> simp [fits] at hf
    obtain rfl : u = _ := hr
    cases n <;> simp [Instr.sameBits, beq_toListBytes]
theorem sameBits_all {n : Nat} : ∀ {ks : List CK} {x : List PV} {us : List Value}, fits ks x = true → RL w I x us → (us.zip us).all (fun p => Instr.sameBits n p.1 p.2) = true
  | [], [], _, _, h1 => by
    have h1 : _ = [] := h1
    rw [h1]; rfl
  | [], _ :: _, _, h, _ => by cases h
  | c :: ks, [], _, h, _ => by cases c <;> cases h
  | c :: ks, x :: xs, _, hx, ⟨u, us', e1, r1, l1⟩ => by
    subst e1
    have hx2 : fits ks xs = true := by
      cases c <;> cases x <;> simp [fits] at hx ⊢ <;> first | exact hx | exact hx.2
    simp only [List.zip_cons_cons, List.all_cons, Bool.and_eq_true]
    exact ⟨sameBits_one hx r1 n, sameBits_all hx2 l1⟩
theorem keyStays {kt : TypeId} {ka : Bool} {ks : List CK} (hc : keyK E kt = some (ka, ks)) {x : List PV} {us : List Value} (hf : fits ks x = true) (hr : RL w I x us) : (Instr.keyThatStays (ofCells ka us) (ofCells ka us)).run E.P w = .ok (ofCells ka us) w := by
  have hs : Instr.sameBits 10000 (ofCells ka us) (ofCells ka us) = true := by
    unfold keyK at hc
    split at hc
    · rename_i c hp
      injection hc with hc
      injection hc with h1 h2
      subst h1; subst h2
      match x, fits_len hf, hf, hr with
      | [y], _, hf, hr =>
        obtain ⟨u, us', e1, r1, e2⟩ := hr
        obtain rfl : us' = [] := e2
        subst e1
        exact sameBits_one hf r1 10000
    · split at hc
      · split at hc
        · rename_i ks' he
          injection hc with hc
          injection hc with h1 h2
          subst h1; subst h2
          have := sameBits_all (n := 9999) hf hr
          show Instr.sameBits (9999 + 1) (.agg us.toArray) (.agg us.toArray) = true
          simp only [Instr.sameBits, beq_self_eq_true, Bool.true_and]
          exact this
        · cases hc
      · cases hc
  simp [Instr.keyThatStays, hs]
theorem RM.set {ka va : Bool} {ks : List CK} {k v : List PV} {ku vu : List Value} {n : Nat} (hk : fits ks k = true) (hku : RL w I k ku) (hvu : RL w I v vu) :
    ∀ {es : List (List PV × List PV × Nat)} {ents : List MapEntry} (i0 : Nat), (es.all fun e => fits ks e.1) = true → RM w I ka va es ents →
      (mfindI k es i0 = none ∧ RM w I ka va (mset k v n es) (ents ++ [⟨ofCells ka ku, ofCells va vu, n⟩])) ∨
      (∃ j x, mfindI k es i0 = some (i0 + j, x) ∧ (ents[j]?).map (·.key) = some (ofCells ka ku) ∧ RM w I ka va (mset k v n es) (ents.modify j fun e => { e with key := ofCells ka ku, val := ofCells va vu }))
  | [], ents, i0, _, h => by
    have h : ents = [] := h
    subst h
    exact .inl ⟨rfl, ku, vu, [], rfl, hku, hvu, rfl⟩
  | e :: es, ents, i0, hf, ⟨ku2, vu2, ents', e1, h1, h2, h3⟩ => by
    subst e1
    simp only [List.all_cons, Bool.and_eq_true] at hf
    by_cases he : eqCells k e.1 = true
    · right
      have hs := eq_same hk hf.1 he hku h1
      refine ⟨0, e.2.1, by simp [mfindI, he], by simp [hs], ?_⟩
      simp only [mset, he, if_true]
      exact ⟨ku, vu, ents', rfl, hku, hvu, h3⟩
    · have he' : eqCells k e.1 = false := by simpa using he
      rcases RM.set hk hku hvu (n := n) (i0 + 1) hf.2 h3 with ⟨a1, a2⟩ | ⟨j, x, a1, a2, a3⟩
      · left
        refine ⟨by simp [mfindI, he', a1], ?_⟩
        simp only [mset, he']
        exact ⟨ku2, vu2, _, rfl, h1, h2, a2⟩
      · right
        refine ⟨j + 1, x, by simp only [mfindI, he', Bool.false_eq_true, if_false, a1]; congr 2; omega, by simpa using a2, ?_⟩
        simp only [mset, he']
        exact ⟨ku2, vu2, _, rfl, h1, h2, a3⟩
theorem RM.del {ka va : Bool} {k : List PV} : ∀ {es : List (List PV × List PV × Nat)} {ents : List MapEntry} (i0 : Nat), RM w I ka va es ents →
      (mfindI k es i0 = none ∧ mdel k es = es) ∨ (∃ j x, mfindI k es i0 = some (i0 + j, x) ∧ j < ents.length ∧ RM w I ka va (mdel k es) (ents.eraseIdx j))
  | [], ents, i0, h => .inl ⟨rfl, rfl⟩
  | e :: es, ents, i0, ⟨ku2, vu2, ents', e1, h1, h2, h3⟩ => by
    subst e1
    by_cases he : eqCells k e.1 = true
    · right
      refine ⟨0, e.2.1, by simp [mfindI, he], by simp, ?_⟩
      simp only [mdel, he, if_true]
      exact h3
    · have he' : eqCells k e.1 = false := by simpa using he
      rcases RM.del (k := k) (i0 + 1) h3 with ⟨a1, a2⟩ | ⟨j, x, a1, a2, a3⟩
      · left
        exact ⟨by simp [mfindI, he', a1], by simp [mdel, he', a2]⟩
      · right
        refine ⟨j + 1, x, by simp only [mfindI, he', Bool.false_eq_true, if_false, a1]; congr 2; omega, by simpa using a2, ?_⟩
        simp only [mdel, he']
        exact ⟨ku2, vu2, _, rfl, h1, h2, a3⟩
theorem mfindI_has (k : List PV) (es : List (List PV × List PV × Nat)) (i : Nat) : (mfindI k es i).isSome = (mfind k es).isSome := by rw [← mfindI_find k es i]; simp

theorem SWO.makeMapG {ops : Array Oper} {o : Oper} {rest : List Oper} {Q : Exit → AS → Prop} {a : AS} (t : TypeId) (ka va : Bool) (hop : o.op = .makeMap t none) (hg : wantedA ops a o = some true) (hd : okDst a.n o.dst = true)
    (k : ∀ r, a.h r = none → SWO E ops rest Q { a.put o.dst (.val (.map (some r))) with h := a.h.put r (.gmap ka va [] 0) }) : SWO E ops (o :: rest) Q a := by
  refine SWO.to hg hd fun w I G act g r => ?_
  have hob : RObj (w.alloc (.map #[] 0)) I G w.heap.size (.gmap ka va [] 0) := ⟨[], by rw [heap_alloc_at], rfl⟩
  obtain ⟨g', s⟩ := g.alloc_own' _ hob
  refine ⟨_, .map (some w.heap.size), _, I, G, _, .val (.map (some w.heap.size)), ?_, .inl rfl, g', s, ⟨rfl, rfl⟩, k _ g.fresh⟩
  simp only [execOp, hop, Instr.makeMap, Sem.run_bind, Option.map_none]
  rfl
/-- The clock behind a set. -/
def mclock (k : List PV) (es : List (List PV × List PV × Nat)) (n : Nat) : Nat := if (mfind k es).isSome = true then n else n + 1
/-- A map is set at a key. -/
theorem SWO.mapSet {ops : Array Oper} {o : Oper} {rest : List Oper} {Q : Exit → AS → Prop} {a : AS} (t : TypeId) (m key v : Operand) (hop : o.op = .mapUpdate t m key v ∨ o.op = .insert t m key v) {i : TyI} {kt et : TypeId} (ht : E.ty t = some i) (hk : i.k = .map kt et) {ka : Bool} {ks : List CK} (hkk : keyK E kt = some (ka, ks))
    {r0 n : Nat} {va : Bool} {es : List (List PV × List PV × Nat)} {kv vv : PV} (hm : a.eval E m = .val (.map (some r0))) (hx : a.eval E key = kv) (hka : isAggV kv = ka) (hkf : fits ks kv.cells = true) (hv : a.eval E v = vv) (hva : isAggV vv = va) (hvk : known1 vv = true) (hr : a.h r0 = some (.gmap ka va es n)) (hf : (es.all fun e => fits ks e.1) = true)
    (hg : wantedA ops a o = some true) (hd : okDst a.n o.dst = true) (k : SWO E ops rest Q { a.put o.dst .any with h := a.h.put r0 (.gmap ka va (mset kv.cells vv.cells n es) (mclock kv.cells es n)) }) : SWO E ops (o :: rest) Q a := by
  refine SWO.to hg hd fun w I G act g r => ?_
  have hdt := ty_under ht
  rw [hk] at hdt
  have h1 := r.eval g m
  rw [hm] at h1
  have h1 := R_val h1
  have h2 := r.eval g key
  rw [hx] at h2
  obtain ⟨ku, e2, hku⟩ := fits_cells hkk hkf hka.symm h2
  have h3 := r.eval g v
  rw [hv] at h3
  have hvu := R_cells_run h3 hvk
  have e3 : act.eval v = ofCells va (act.eval v).cells.toList := by
    subst hva
    cases vv with
    | agg cs => obtain ⟨us, e, _⟩ := R_agg h3; rw [e]; rfl
    | any => cases hvk
    | tuple _ => cases hvk
    | _ =>
      have h4 : (act.eval v).oneCell' = true := R1.one (w := w) (I := I) h3
      generalize act.eval v = u at h4 ⊢
      cases u <;> first | rfl | (simp [Value.oneCell'] at h4)
  obtain ⟨hlt, hnI, hnG, ents, hcell, hrm⟩ := g.own _ _ hr
  obtain ⟨u, hu, hres⟩ := findKey_g hkk hkf hku es ents hf hrm
  have hck := checkKey_g (w := w) hkk hkf hku false
  let w2 : List MapEntry → Nat → World := fun l c => { w with heap := w.heap.setIfInBounds r0 (.map l.toArray c) }
  have fin : ∀ l c, (Instr.mapUpdate t (.map (some r0)) (act.eval key) (act.eval v)).run E.P w = .ok () (w2 l c) → c = mclock kv.cells es n → RM w I ka va (mset kv.cells vv.cells n es) l →
      ∃ n' u' w' I' G' h' v', (execOp act.eval o).run E.P w = .ok n' w' ∧ (n' = .value u' ∨ n' = .skip ∧ u' = undef) ∧ Good E w' I' G' h' ∧ Stp w I G a.h w' I' G' h' ∧ R w' I' v' u' ∧ SWO E ops rest Q { a.put o.dst v' with h := h' } := by
    intro l c hrun hc hl
    subst hc
    have hat : (w2 l (mclock kv.cells es n)).heap[r0]? = some (.map l.toArray (mclock kv.cells es n)) := by
      show (w.heap.setIfInBounds r0 _)[r0]? = _
      rw [Array.getElem?_setIfInBounds]
      simp [hlt]
    have hoth : ∀ k, k ≠ r0 → (w2 l (mclock kv.cells es n)).heap[k]? = w.heap[k]? := fun k hk => by
      show (w.heap.setIfInBounds r0 _)[k]? = _
      rw [Array.getElem?_setIfInBounds, if_neg (fun e => hk e.symm)]
    have hkeep : Keeps w I (w2 l (mclock kv.cells es n)) I := fun k hk => ⟨hk, hoth k (fun e => hnI (e ▸ hk))⟩
    obtain ⟨g', s'⟩ := g.write (w' := w2 l (mclock kv.cells es n)) (ob := .gmap ka va (mset kv.cells vv.cells n es) (mclock kv.cells es n)) hr rfl (by simp [w2]) hoth rfl rfl rfl ⟨l, hat, RM.keeps hkeep _ _ hl⟩
    refine ⟨.skip, undef, _, I, G, _, .any, ?_, .inr ⟨rfl, rfl⟩, g', s', trivial, k⟩
    rcases hop with hop | hop <;> simp only [execOp, hop, h1, Sem.run_bind, hrun, Result.andThen_ok, Sem.run_pure]
  rw [e2, e3] at fin
  have hu' : (Instr.findKey kt (ofCells ka ku) ents.toArray.toList).run E.P w = .ok u w := hu
  rcases RM.set (va := va) hkf hku hvu (n := n) 0 hf hrm with ⟨a1, a2⟩ | ⟨j, x, a1, a2, a3⟩
  · rw [a1] at hres
    have hres : u = none := hres
    subst hres
    have hns : (mfind kv.cells es).isSome = false := by rw [← mfindI_has _ _ 0, a1]; rfl
    refine fin _ (n + 1) ?_ (by unfold mclock; rw [hns]; rfl) a2
    simp only [Instr.mapUpdate, Sem.run_bind, run_underlying hdt, Result.andThen_ok, MapKept.run_getObj_map hcell, hck, hu', MapKept.run_setObj_map _ hcell, w2]
    simp
  · rw [a1] at hres
    obtain ⟨vu, rfl, _⟩ := hres
    have hs : (mfind kv.cells es).isSome = true := by rw [← mfindI_has _ _ 0, a1]; rfl
    refine fin _ n ?_ (by unfold mclock; rw [hs]; rfl) a3
    have hold : (((ents.toArray[0 + j]?).map (·.key)).getD (ofCells ka ku)) = ofCells ka ku := by
      rw [Nat.zero_add, List.getElem?_toArray, a2]
      rfl
    have hks := keyStays (w := w) (I := I) hkk hkf hku
    simp only [Instr.mapUpdate, Sem.run_bind, run_underlying hdt, Result.andThen_ok, MapKept.run_getObj_map hcell, hck, hu', hold, hks, MapKept.run_setObj_map _ hcell, w2]
    simp
/-- A key is deleted. -/
theorem SWO.mapDel {ops : Array Oper} {o : Oper} {rest : List Oper} {Q : Exit → AS → Prop} {a : AS} (t tk : TypeId) (m key : Operand) (hop : o.op = .call { callee := .builtin .delete, args := #[m, key], argTypes := #[t, tk] }) {i : TyI} {kt et : TypeId} (ht : E.ty t = some i) (hk : i.k = .map kt et) {ka : Bool} {ks : List CK} (hkk : keyK E kt = some (ka, ks))
    {r0 n : Nat} {va : Bool} {es : List (List PV × List PV × Nat)} {kv : PV} (hm : a.eval E m = .val (.map (some r0))) (hx : a.eval E key = kv) (hka : isAggV kv = ka) (hkf : fits ks kv.cells = true) (hr : a.h r0 = some (.gmap ka va es n)) (hf : (es.all fun e => fits ks e.1) = true)
    (hg : wantedA ops a o = some true) (hd : okDst a.n o.dst = true) (k : SWO E ops rest Q { a.put o.dst (.tuple []) with h := a.h.put r0 (.gmap ka va (mdel kv.cells es) n) }) : SWO E ops (o :: rest) Q a := by
  refine SWO.to hg hd fun w I G act g r => ?_
  have hdt := ty_under ht
  rw [hk] at hdt
  have h1 := r.eval g m
  rw [hm] at h1
  have h1 := R_val h1
  have h2 := r.eval g key
  rw [hx] at h2
  obtain ⟨ku, e2, hku⟩ := fits_cells hkk hkf hka.symm h2
  obtain ⟨hlt, hnI, hnG, ents, hcell, hrm⟩ := g.own _ _ hr
  obtain ⟨u, hu, hres⟩ := findKey_g hkk hkf hku es ents hf hrm
  have hck := checkKey_g (w := w) hkk hkf hku (ents.isEmpty)
  have hu' : (Instr.findKey kt (ofCells ka ku) ents.toArray.toList).run E.P w = .ok u w := hu
  have fin : ∀ l : List MapEntry, (Builtin.delete_ #[t, tk] o.type #[.map (some r0), ofCells ka ku]).run E.P w = .ok (.tuple #[]) { w with heap := w.heap.setIfInBounds r0 (.map l.toArray n) } → RM w I ka va (mdel kv.cells es) l →
      ∃ n' u' w' I' G' h' v', (execOp act.eval o).run E.P w = .ok n' w' ∧ (n' = .value u' ∨ n' = .skip ∧ u' = undef) ∧ Good E w' I' G' h' ∧ Stp w I G a.h w' I' G' h' ∧ R w' I' v' u' ∧ SWO E ops rest Q { a.put o.dst v' with h := h' } := by
    intro l hrun hl
    let w2 : World := { w with heap := w.heap.setIfInBounds r0 (.map l.toArray n) }
    have hat : w2.heap[r0]? = some (.map l.toArray n) := by
      show (w.heap.setIfInBounds r0 _)[r0]? = _
      rw [Array.getElem?_setIfInBounds]
      simp [hlt]
    have hoth : ∀ k, k ≠ r0 → w2.heap[k]? = w.heap[k]? := fun k hk => by
      show (w.heap.setIfInBounds r0 _)[k]? = _
      rw [Array.getElem?_setIfInBounds, if_neg (fun e => hk e.symm)]
    have hkeep : Keeps w I w2 I := fun k hk => ⟨hk, hoth k (fun e => hnI (e ▸ hk))⟩
    obtain ⟨g', s'⟩ := g.write (w' := w2) (ob := .gmap ka va (mdel kv.cells es) n) hr rfl (by simp [w2]) hoth rfl rfl rfl ⟨l, hat, RM.keeps hkeep _ _ hl⟩
    refine ⟨_, .tuple #[], w2, I, G, _, .tuple [], ?_, .inl rfl, g', s', ⟨[], rfl, rfl⟩, k⟩
    simp [execOp, hop, resolve, invoke, builtin, h1, e2, hrun, w2]
  rcases RM.del (k := kv.cells) 0 hrm with ⟨a1, a2⟩ | ⟨j, x, a1, a2, a3⟩
  · rw [a1] at hres
    have hres : u = none := hres
    subst hres
    refine fin ents ?_ (by rw [a2]; exact hrm)
    simp [Builtin.delete_, run_underlying hdt, MapKept.run_getObj_map hcell, hck, hu, MapKept.run_setObj_map _ hcell, Result.andThen]
  · rw [a1] at hres
    obtain ⟨vu, rfl, _⟩ := hres
    refine fin _ ?_ a3
    rw [Nat.zero_add] at hu
    simp [Builtin.delete_, run_underlying hdt, MapKept.run_getObj_map hcell, hck, hu, MapKept.run_setObj_map _ hcell, Result.andThen, Array.eraseIdxIfInBounds, a2]
end
end Go.Proofs.YthlibdhjcjangaaDoor.Lift

namespace Go.Proofs.YthlibdhjcjangaaDoor.Lift
open Go Go.RowKit
variable {E : Env}
/-- The first statements of a sequence, and what is known behind them. -/
def seqW (E : Env) (S : Specs E) (Q : Exit → AS → Prop) (M : AS → Prop) : Nat → Code → AS → Prop
  | 0, _, a => M a
  | k + 1, .seq x y, a => wpC E S x (thenQ (seqW E S Q M k y) Q) a
  | _ + 1, _, _ => False
/-- The code behind them. -/
def dropSeq : Nat → Code → Code
  | 0, c => c
  | k + 1, .seq _ y => dropSeq k y
  | _ + 1, c => c
theorem SW.cutK (S : Specs E) (k : Nat) (M : AS → Prop) : ∀ {c : Code} {Q : Exit → AS → Prop} {a : AS}, seqW E S Q M k c a → (∀ a, M a → SW E (dropSeq k c) Q a) → SW E c Q a := by
  induction k with
  | zero => intro c Q a h hk; exact hk a h
  | succ k ih =>
    intro c Q a h hk
    cases c with
    | seq x y =>
      refine SW.seq ((SW.run S x h).mono fun e a' q => ?_)
      cases e with
      | normal => exact ih q hk
      | _ => exact q
    | _ => exact h.elim
/-- A slice of one's own that stands first in a result is let go. -/
theorem Own.letGoT {h0 H : Heap} {e : TypeId} {sz : Nat} {xs : List (List PV)} {v : PV} (hown : Own h0 e sz xs v H) (rest : List PV) :
    LetGo E H (.tuple (v :: rest)) h0 (.tuple (.list sz xs :: rest)) := fun w I G g => by
  obtain ⟨I', G', g', s, hk, hr⟩ := hown.letGo1 g
  refine ⟨I', G', g', s, hk, fun u hu => ?_⟩
  obtain ⟨us, rfl, hu⟩ : ∃ us : List Value, u = .tuple us.toArray ∧ R0s w I (v :: rest) us := hu
  obtain ⟨u1, us', rfl, h1, h2⟩ := hu
  refine ⟨_, rfl, u1, us', rfl, ?_, R0s.keeps' hk _ _ h2⟩
  have hv : v ≠ .any ∧ (∀ c, v ≠ .tuple c) ∧ (∀ c, v ≠ .agg c) := by
    rcases hown with ⟨rfl, _⟩ | ⟨_, _, rfl, _⟩ <;> simp
  have h1' : R1 w I v u1 := by
    rcases hown with ⟨rfl, _⟩ | ⟨_, _, rfl, _⟩ <;> exact h1
  exact hr _ h1'
/-- .. or is the whole of it. -/
theorem Own.letGoV {h0 H : Heap} {e : TypeId} {sz : Nat} {xs : List (List PV)} {v : PV} (hown : Own h0 e sz xs v H) : LetGo E H v h0 (.list sz xs) := fun w I G g => by
  obtain ⟨I', G', g', s, hk, hr⟩ := hown.letGo1 g
  refine ⟨I', G', g', s, hk, fun u hu => ?_⟩
  have h1' : R1 w I v u := by
    rcases hown with ⟨rfl, _⟩ | ⟨_, _, rfl, _⟩ <;> exact hu
  exact hr _ h1'
theorem Own.slice {h0 H : Heap} {e : TypeId} {sz : Nat} {xs : List (List PV)} {v : PV} (o : Own h0 e sz xs v H) : ∃ A c, v = .val (.slice A xs.length c) := by
  rcases o with ⟨rfl, rfl, _⟩ | ⟨r, cap, rfl, _⟩
  · exact ⟨none, 0, rfl⟩
  · exact ⟨_, _, rfl⟩
theorem HTo.own {E : Env} {h0 H : Heap} {e : TypeId} {sz : Nat} {xs : List (List PV)} {v : PV} (o : Own h0 e sz xs v H) : HTo E H h0 := by
  rcases o with ⟨_, _, rfl⟩ | ⟨r, cap, _, _, _, hr, rfl, _⟩
  · exact .refl _ _
  · exact HTo.put (.refl _ _) hr _
/-- What is owned may be forgotten. -/
theorem HTo.of {h H : Heap} (hk : ∀ k X, h k = some X → H k = some X) : HTo E H h := HSub.to fun k => by
  cases e : h k with
  | none => exact .inl rfl
  | some X => exact .inr (hk k X e).symm
theorem Own.base {h0 H : Heap} {e : TypeId} {sz : Nat} {xs : List (List PV)} {v : PV} (o : Own h0 e sz xs v H) {k : Nat} {X : AObj} (hk : h0 k = some X) : H k = some X := by
  rcases o with ⟨_, _, rfl⟩ | ⟨r, cap, _, _, _, hr, rfl, _⟩
  · exact hk
  · rw [Heap.put_ne _ _ (fun e => by rw [e, hr] at hk; cases hk)]; exact hk
end Go.Proofs.YthlibdhjcjangaaDoor.Lift
