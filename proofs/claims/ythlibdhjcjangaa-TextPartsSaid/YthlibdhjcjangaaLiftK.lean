/- Calls. -/
import Derived.Test.YthlibdhjcjangaaLiftJ
set_option linter.unusedSimpArgs false
set_option linter.unusedVariables false
namespace Go.Proofs.Ythlibdhjcjangaa.Lift
open Go Go.RowKit

inductive SEnd where
  | ret (v : PV)
  | panicked (c : List PanicEntry)

section
variable {E : Env} {w w1 w' : World} {I I1 I' : Nat → Prop} {G G1 G' : Nat → Option Nat} {h h' : Heap}

def CPost (E : Env) (w : World) (I : Nat → Prop) (G : Nat → Option Nat) (h : Heap) (Q : SEnd → Heap → Prop) (e : Ending) (w' : World) : Prop :=
  ∃ I' G' h', Good E w' I' G' h' ∧ Stp w I G h w' I' G' h' ∧ match e with
    | .returned v => ∃ p, R w' I' p v ∧ Q (.ret p) h'
    | .panicked c => Q (.panicked c) h'
    | .outgrown => False
/-- A call of a function that has a body. -/
def SCalls (E : Env) (f : FuncId) (args : List PV) (h : Heap) (Q : SEnd → Heap → Prop) : Prop :=
  (∃ fn c, E.P.funcs[f]? = some fn ∧ fn.body = some c ∧ (fn.name == "runtime.NumGoroutine") = false) ∧
  ∀ w I G vs, Good E w I G h → R0s w I args vs → Calls E.P f vs.toArray w (CPost E w I G h Q)
theorem SCalls.mono {f : FuncId} {args : List PV} {Q Q' : SEnd → Heap → Prop} (hc : SCalls E f args h Q) (hq : ∀ e h, Q e h → Q' e h) : SCalls E f args h Q' :=
  ⟨hc.1, fun w I G vs g r => (hc.2 w I G vs g r).mono fun e w' ⟨I', G', h', g', s, q⟩ => ⟨I', G', h', g', s, by
    cases e with
    | returned v => obtain ⟨p, hp, q⟩ := q; exact ⟨p, hp, hq _ _ q⟩
    | panicked c => exact hq _ _ q
    | outgrown => exact q⟩⟩

def enumA : Nat → List PV → List (Nat × PV)
  | _, [] => []
  | i, x :: xs => (i, x) :: enumA (i + 1) xs
theorem look_enumA : ∀ (xs : List PV) (i t : Nat), look (enumA i xs) t = if i ≤ t then xs[t - i]? else none
  | [], i, t => by simp [enumA, look]
  | x :: xs, i, t => by
    simp only [enumA, look, look_enumA xs (i + 1) t]
    by_cases e : i = t
    · subst e; simp
    · rw [if_neg e]
      by_cases hlt : i + 1 ≤ t
      · rw [if_pos hlt, if_pos (by omega), show t - i = (t - (i + 1)) + 1 by omega]
        simp
      · rw [if_neg hlt, if_neg (by omega)]
theorem R0s.length : ∀ {xs : List PV} {us : List Value}, R0s w I xs us → us.length = xs.length
  | [], _, h => by
    have h : _ = [] := h
    rw [h]; rfl
  | x :: xs, _, ⟨u, us', e, _, h2⟩ => by rw [e]; simp [h2.length]
theorem RS.init {args : List PV} {vs : List Value} {n : Nat} (hr : R0s w I args vs) (hl : args.length ≤ n) : RS w I ⟨n, enumA 0 args, h⟩ { tmps := vs.toArray ++ Array.replicate (n - vs.toArray.size) undef, defers := [] } := by
  have hlen := hr.length
  refine ⟨rfl, by simp; omega, fun t => ?_⟩
  have hget : (⟨n, enumA 0 args, h⟩ : AS).get t = (args[t]?).getD .any := by
    unfold AS.get
    simp only [look_enumA, Nat.zero_le, if_true, Nat.sub_zero]
  rw [hget]
  cases e : args[t]? with
  | none => trivial
  | some x =>
    obtain ⟨u, hu, h1⟩ := hr.get e
    have hlt : t < vs.length := (List.getElem?_eq_some_iff.1 hu).1
    rw [Array.getD_eq_getD_getElem?, Array.getElem?_append_left (by simpa using hlt), List.getElem?_toArray, hu]
    exact R_of_R0 h1

/-! ### Results -/
def sres1 (E : Env) (a : AS) : ResultVar → Option PV
  | .tmp t => match a.get t with
    | .tuple _ => none
    | v => some v
  | .cell p t => match a.get p, E.ty t with
    | .val (.pointer (some ⟨r, off, none⟩)), some i => match a.h r with
      | some (.cells _ _ cs) => if off + i.size ≤ cs.length ∧ okOne i = true then some (valOf i.k.isAgg ((cs.drop off).take i.size)) else none
      | _ => none
    | _, _ => none
def sresL (E : Env) (a : AS) : List ResultVar → Option (List PV)
  | [] => some []
  | r :: rs => match sres1 E a r, sresL E a rs with
    | some v, some vs => some (v :: vs)
    | _, _ => none
def sres (E : Env) (a : AS) (rs : List ResultVar) : Option PV :=
  match sresL E a rs with
  | some [v] => some v
  | some vs => some (.tuple vs)
  | none => none
def runRes (tmps : Array Value) : ResultVar → Sem Value
  | .tmp t => pure (tmps.getD t undef)
  | .cell a t => do loadVar t (← asAddr (tmps.getD a undef))
theorem R0_of_R {x : PV} {v : Value} (hx : ∀ c, x ≠ .tuple c) (h : R w I x v) : R0 w I x v := by
  cases x <;> first | exact h | exact absurd rfl (hx _)
theorem sres1_run {a : AS} {act : Act} (g : Good E w I G a.h) (r : RS w I a act) {rv : ResultVar} {p : PV} (hp : sres1 E a rv = some p) : ∃ u, (runRes act.tmps rv).run E.P w = .ok u w ∧ R0 w I p u := by
  cases rv with
  | tmp t =>
    simp only [sres1] at hp
    refine ⟨act.tmps.getD t undef, rfl, ?_⟩
    have h1 := r.slot t
    split at hp
    · cases hp
    · rename_i hne
      injection hp with hp; subst hp
      exact R0_of_R (fun c e => hne c e) h1
  | cell q t =>
    simp only [sres1] at hp
    split at hp
    · rename_i r0 off i he ht
      split at hp
      · rename_i t' size cs hr0
        split at hp
        · rename_i hc
          injection hp with hp; subst hp
          have h1 := r.slot q
          rw [he] at h1
          have h1 := R_val h1
          obtain ⟨_, _, _, us, rest, hh, hr, _⟩ := g.own _ _ hr0
          refine ⟨ofCells i.k.isAgg ((us.drop off).take i.size), ?_, ?_⟩
          · have hcell : ∀ j u, ((us.drop off).take i.size)[j]? = some u → w.cell? ((⟨r0, off, none⟩ : Addr).add j) = some u := by
              intro j u hj
              rw [List.getElem?_take] at hj
              split at hj
              · rw [List.getElem?_drop] at hj
                have e : (⟨r0, off, none⟩ : Addr).add j = ⟨r0, off + j, none⟩ := by unfold Addr.add; split <;> simp_all
                rw [e]
                exact cell_of_cells hh hj
              · cases hj
            have := run_loadVar_known (E := E) (w := w) ht (us := (us.drop off).take i.size) (by simp [hr.length]; omega) (okOne_spec hc.2) hcell
            simp [runRes, h1, asAddr, this]
          · have := R_valOf ((hr.drop off).take i.size) (a := i.k.isAgg) (fun hk => by have := okOne_spec hc.2 hk; simp; omega)
            refine R0_of_R (fun c e => ?_) this
            unfold valOf at e
            split at e
            · cases e
            · have h2 := (hr.drop off).take i.size
              cases hl : (cs.drop off).take i.size with
              | nil => rw [hl] at e; cases e
              | cons y ys =>
                rw [hl] at e h2
                simp only [List.getD_cons_zero] at e
                subst e
                simp only [RL] at h2
                obtain ⟨u, us', _, h3, _⟩ := h2
                simp only [R1] at h3
        · cases hp
      · cases hp
    · cases hp
theorem sresL_run {a : AS} {act : Act} (g : Good E w I G a.h) (r : RS w I a act) : ∀ {rs : List ResultVar} {ps : List PV}, sresL E a rs = some ps → ∃ us, (rs.mapM (runRes act.tmps)).run E.P w = .ok us w ∧ R0s w I ps us ∧ us.length = rs.length
  | [], ps, hp => by
    simp only [sresL, Option.some.injEq] at hp
    subst hp
    exact ⟨[], by simp, rfl, rfl⟩
  | rv :: rs, ps, hp => by
    simp only [sresL] at hp
    split at hp
    · rename_i v vs h1 h2
      injection hp with hp; subst hp
      obtain ⟨u, hu, hr⟩ := sres1_run g r h1
      obtain ⟨us, hus, hrs, hl⟩ := sresL_run g r h2
      exact ⟨u :: us, by simp [List.mapM_cons, hu, hus], ⟨u, us, rfl, hr, hrs⟩, by simp [hl]⟩
    · cases hp
theorem results_eq (fn : Func) (tmps : Array Value) : results fn tmps = (do let vs ← fn.results.mapM (runRes tmps); pure (if h : vs.size = 1 then vs[0] else .tuple vs)) := by
  unfold results
  have e : (fun x : ResultVar => match x with | .tmp t => (pure (tmps.getD t undef) : Sem Value) | .cell a t => do loadVar t (← asAddr (tmps.getD a undef))) = runRes tmps := by
    funext rv
    cases rv <;> rfl
  rw [← e]
  rfl
theorem sres_run {a : AS} {act : Act} {fn : Func} {p : PV} (g : Good E w I G a.h) (r : RS w I a act) (hp : sres E a fn.results.toList = some p) : ∃ u, (results fn act.tmps).run E.P w = .ok u w ∧ R w I p u := by
  unfold sres at hp
  cases hl : sresL E a fn.results.toList with
  | none => rw [hl] at hp; cases hp
  | some ps =>
    rw [hl] at hp
    obtain ⟨us, hus, hrs, hlen⟩ := sresL_run g r hl
    have e : fn.results.mapM (runRes act.tmps) = List.toArray <$> fn.results.toList.mapM (runRes act.tmps) := by
      have := List.mapM_toArray (l := fn.results.toList) (f := runRes act.tmps)
      simpa using this
    have hrun : (results fn act.tmps).run E.P w = .ok (if h : us.toArray.size = 1 then us.toArray[0] else .tuple us.toArray) w := by
      rw [results_eq, Sem.run_bind, e, Sem.run_map, hus]
      rfl
    have hl2 := hrs.length
    split at hp
    · rename_i v hv
      injection hv with hv
      subst hv
      injection hp with hp; subst hp
      obtain ⟨u, us', e1, h1, h2⟩ := hrs
      have h2 : us' = [] := h2
      subst h2
      subst e1
      exact ⟨u, hrun, R_of_R0 h1⟩
    · rename_i vs hne hv
      injection hv with hv
      subst hv
      injection hp with hp; subst hp
      have h1 : us.length ≠ 1 := by
        rw [hl2]
        intro h1
        match ps, h1 with
        | [v], _ => exact hne v rfl
      exact ⟨.tuple us.toArray, by rw [hrun, dif_neg (by simpa using h1)], us, rfl, hrs⟩
    · rename_i hv; cases hv

/-! ### What is owned may be forgotten -/
def HSub (h' h : Heap) : Prop := ∀ k, h' k = none ∨ h' k = h k
theorem HSub.refl (h : Heap) : HSub h h := fun _ => .inr rfl
theorem HSub.put {h' h : Heap} (hs : HSub h' h) {r : Nat} (hr : h' r = none) (o : AObj) : HSub h' (h.put r o) := fun k => by
  by_cases e : k = r
  · subst e; exact .inl hr
  · rw [Heap.put_ne _ _ e]; exact hs k
def subG (G : Nat → Option Nat) (h' : Heap) : Nat → Option Nat := fun k => match G k with
  | none => none
  | some r => match h' r with
    | none => none
    | some _ => some r
theorem subG_some {k r : Nat} (e : subG G h' k = some r) : G k = some r ∧ ∃ o, h' r = some o := by
  unfold subG at e
  split at e
  · cases e
  · rename_i r' hr
    split at e
    · cases e
    · rename_i o ho
      injection e with e
      subst e
      exact ⟨hr, o, ho⟩
theorem Good.sub (g : Good E w I G h) (hs : HSub h' h) : Good E w I (subG G h') h' ∧ Stp w I G h w I (subG G h') h' := by
  have up : ∀ r o, h' r = some o → h r = some o := fun r o e => by
    rcases hs r with e1 | e1
    · rw [e1] at e; cases e
    · rw [← e1]; exact e
  have dn : ∀ k, h k = none → h' k = none := fun k e => by
    rcases hs k with e1 | e1
    · exact e1
    · rw [e1]; exact e
  refine ⟨⟨fun r o e => ?_, fun k r e => ?_, g.imm, g.glob⟩, ⟨rfl, rfl, rfl, Nat.le_refl _, fun k _ e1 e2 => ⟨rfl, dn k e1, by simp [subG, e2]⟩, fun _ h => h, fun _ _ _ _ h => h⟩⟩
  · obtain ⟨h1, h2, h3, h4⟩ := g.own r o (up r o e)
    refine ⟨h1, h2, by simp [subG, h3], ?_⟩
    cases o with
    | cells t size cs => exact h4
    | iter s pos => exact h4
    | bld T t bs =>
      rcases h4 with h4 | ⟨k, cap, rest, hk, h5⟩
      · exact .inl h4
      · exact .inr ⟨k, cap, rest, by simp [subG, hk, e], h5⟩
  · obtain ⟨e1, o, ho⟩ := subG_some e
    obtain ⟨h1, h2, h3, T, t, bs, h4⟩ := g.hid k r e1
    refine ⟨h1, h2, dn k h3, T, t, bs, ?_⟩
    rcases hs r with e2 | e2
    · rw [e2] at ho; cases ho
    · rw [e2]; exact h4

/-- What is owned may be seen in another way. -/
def HTo (E : Env) (h h' : Heap) : Prop := ∀ w I G, Good E w I G h → ∃ I' G', Good E w I' G' h' ∧ Stp w I G h w I' G' h'
theorem HTo.refl (E : Env) (h : Heap) : HTo E h h := fun _ I G g => ⟨I, G, g, .refl ..⟩
theorem HTo.trans {E : Env} {h h1 h2 : Heap} (a : HTo E h h1) (b : HTo E h1 h2) : HTo E h h2 := fun w I G g => by
  obtain ⟨I1, G1, g1, s1⟩ := a w I G g
  obtain ⟨I2, G2, g2, s2⟩ := b w I1 G1 g1
  exact ⟨I2, G2, g2, s1.trans s2⟩
theorem HSub.to {E : Env} {h h' : Heap} (s : HSub h' h) : HTo E h h' := fun _ I _ g => ⟨I, _, g.sub s⟩
/-- What must hold behind a function's body. -/
def RPost (E : Env) (rs : List ResultVar) (Q : SEnd → Heap → Prop) : Exit → AS → Prop
  | .normal, a => ∃ p, sres E a rs = some p ∧ ∃ h', HTo E a.h h' ∧ Q (.ret p) h'
  | .ret, a => ∃ p, sres E a rs = some p ∧ ∃ h', HTo E a.h h' ∧ Q (.ret p) h'
  | .panic c, a => ∃ h', HTo E a.h h' ∧ Q (.panicked c) h'
  | _, _ => False
theorem SCalls.body {f : FuncId} {fn : Func} {c : Code} {args : List PV} {Q : SEnd → Heap → Prop} (hf : E.P.funcs[f]? = some fn) (hb : fn.body = some c) (hn : (fn.name == "runtime.NumGoroutine") = false) (hl : args.length ≤ fn.ntmps)
    (k : SW E c (RPost E fn.results.toList Q) ⟨fn.ntmps, enumA 0 args, h⟩) : SCalls E f args h Q := by
  refine ⟨⟨fn, c, hf, hb, hn⟩, fun w I G vs g r => ?_⟩
  refine calls_of_wp hf hb (wp_mono (k w I G _ g (RS.init r hl)) ?_)
  intro e act w' ⟨a', I', G', g', r', s', q⟩
  cases e with
  | normal =>
    obtain ⟨p, hp, h2, hs, q⟩ := q
    obtain ⟨u, hu, hr⟩ := sres_run g' r' hp
    obtain ⟨I2, G2, g2, s2⟩ := hs _ _ _ g'
    exact ⟨r'.defers, u, hu, I2, G2, h2, g2, s'.trans s2, p, R.keeps (s2.keeps g') _ _ hr, q⟩
  | ret =>
    obtain ⟨p, hp, h2, hs, q⟩ := q
    obtain ⟨u, hu, hr⟩ := sres_run g' r' hp
    obtain ⟨I2, G2, g2, s2⟩ := hs _ _ _ g'
    exact ⟨r'.defers, u, hu, I2, G2, h2, g2, s'.trans s2, p, R.keeps (s2.keeps g') _ _ hr, q⟩
  | panic c =>
    obtain ⟨h2, hs, q⟩ := q
    obtain ⟨I2, G2, g2, s2⟩ := hs _ _ _ g'
    exact ⟨r'.defers, I2, G2, h2, g2, s'.trans s2, q⟩
  | exit id => exact q.elim
  | goto l => exact q.elim
  | outgrown => exact q.elim

/-! ### The call -/
def okArg : PV → Bool
  | .tuple _ => false
  | _ => true
theorem R0s_map {a : AS} {act : Act} (g : Good E w I G a.h) (r : RS w I a act) : ∀ (xs : List Operand), (xs.all fun x => okArg (a.eval E x)) = true → R0s w I (xs.map (a.eval E)) (xs.map act.eval)
  | [], _ => rfl
  | x :: xs, h => by
    simp only [List.all_cons, Bool.and_eq_true] at h
    refine ⟨_, _, rfl, R0_of_R (fun c e => ?_) (r.eval g x), R0s_map g r xs h.2⟩
    rw [e] at h; cases h.1
theorem R0s.append : ∀ {xs ys : List PV} {us vs : List Value}, R0s w I xs us → R0s w I ys vs → R0s w I (xs ++ ys) (us ++ vs)
  | [], _, _, _, h, k => by
    have h : _ = [] := h
    rw [h]; exact k
  | x :: xs, _, _, vs, ⟨u, us', e, h1, h2⟩, k => by rw [e]; exact ⟨u, us' ++ vs, rfl, h1, h2.append k⟩
def okRaw : Value → Bool
  | .tuple _ | .agg _ => false
  | _ => true
theorem R0s_raw (w : World) (I : Nat → Prop) : ∀ (vs : List Value), vs.all okRaw = true → R0s w I (vs.map ofVal) vs
  | [], _ => rfl
  | v :: vs, h => by
    simp only [List.all_cons, Bool.and_eq_true] at h
    refine ⟨v, vs, rfl, ?_, R0s_raw w I vs h.2⟩
    have h1 := h.1
    cases v <;> simp [okRaw, ofVal, R0, R1, Value.oneCell'] at h1 ⊢
theorem SWO.call {ops : Array Oper} {o : Oper} {rest : List Oper} {Q : Exit → AS → Prop} {a : AS} (x : Operand) (xs : Array Operand) (ts : Array TypeId) (f : FuncId) (first caps : Array Value) {args : List PV} {Rq : SEnd → Heap → Prop}
    (hop : o.op = .call { callee := .value x, args := xs, argTypes := ts }) (hx : a.eval E x = .val (.func (.func f) first caps)) (hfirst : first.toList.all okRaw = true) (hcaps : caps.toList.all okRaw = true) (hok : (xs.toList.all fun x => okArg (a.eval E x)) = true)
    (hargs : first.toList.map ofVal ++ xs.toList.map (a.eval E) ++ caps.toList.map ofVal = args) (hc : SCalls E f args a.h Rq) (hg : wantedA ops a o = some true) (hd : okDst a.n o.dst = true)
    (k : ∀ p h', Rq (.ret p) h' → SWO E ops rest Q { a.put o.dst p with h := h' }) (kp : ∀ c h', Rq (.panicked c) h' → Q (.panic c) { a with h := h' }) : SWO E ops (o :: rest) Q a := by
  intro w I G act g r
  obtain ⟨⟨fn, c, hf, hb, hname⟩, hcalls⟩ := hc
  have hx' := r.eval g x
  rw [hx] at hx'
  have hx' := R_val hx'
  have hrs : R0s w I args (first.toList ++ xs.toList.map act.eval ++ caps.toList) := by
    rw [← hargs]
    exact ((R0s_raw w I _ hfirst).append (R0s_map g r _ hok)).append (R0s_raw w I _ hcaps)
  have hcall := hcalls w I G _ g hrs
  unfold wpList
  rw [if_pos (r.wanted hg)]
  refine .inl ?_
  unfold Oper.wp
  have hrun : (execOp act.eval o).run E.P w = .ok (.enter f (first.toList ++ xs.toList.map act.eval ++ caps.toList).toArray) w := by
    simp only [execOp, hop, resolve, hx', Deferred.ofValue, Sem.run_bind, Sem.run_pure, Result.andThen_ok, invoke]
    have hne : fn.name ≠ "runtime.NumGoroutine" := by simpa using hname
    have hcf : ∀ as, (callFunc f as).run E.P w = .ok (.enter f as) w := fun as => by simp [callFunc, hf, hne, hb]
    rw [hcf]
    congr 2
    apply Array.ext'
    simp
  rw [hrun, Oper.upon_enter]
  refine hcall.mono ?_
  intro e w' ⟨I', G', h', g', s, q⟩
  cases e with
  | returned v =>
    obtain ⟨p, hp, q⟩ := q
    have r1 := (r.keeps (s.keeps g)).put hd hp
    exact SWO.on (k p h' q) s g' ⟨r1.defers, r1.size, r1.slot⟩
  | panicked c =>
    have r1 := r.keeps (s.keeps g)
    exact ⟨{ a with h := h' }, I', G', g', ⟨r1.defers, r1.size, r1.slot⟩, s, kp c h' q⟩
  | outgrown => exact q.elim
end
end Go.Proofs.Ythlibdhjcjangaa.Lift
