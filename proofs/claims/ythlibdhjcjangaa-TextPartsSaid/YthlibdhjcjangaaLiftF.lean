/- The step of the operations that leave the world as it is, and that it is right. -/
import Derived.Test.YthlibdhjcjangaaLiftE
set_option linter.unusedSimpArgs false
set_option linter.unusedVariables false
namespace Go.Proofs.Ythlibdhjcjangaa.Lift
open Go Go.RowKit

section
variable {E : Env} {w w1 w' : World} {I I1 I' : Nat → Prop} {G G1 G' : Nat → Option Nat} {h : Heap}

/-- An operation yields a value, and leaves the world. -/
def Yld (E : Env) (a : AS) (op : Op) (v : PV) : Prop :=
  ∀ w I G act (o : Oper), o.op = op → Good E w I G a.h → RS w I a act → ∃ u, (execOp act.eval o).run E.P w = .ok (.value u) w ∧ R w I v u

theorem SWO.yld {ops : Array Oper} {o : Oper} {rest : List Oper} {Q : Exit → AS → Prop} {a : AS} {v : PV} (hy : Yld E a o.op v) (hg : wantedA ops a o = some true) (hd : okDst a.n o.dst = true)
    (k : SWO E ops rest Q (a.put o.dst v)) : SWO E ops (o :: rest) Q a :=
  SWO.val v hg hd (fun w I G act g r => hy w I G act o rfl g r) k

theorem Yld.move {a : AS} (x : Operand) : Yld E a (.move x) (a.eval E x) := by
  intro w I G act o ho g r
  exact ⟨_, by simp [execOp, ho], r.eval g x⟩
theorem Yld.assign {a : AS} (x : Operand) : Yld E a (.assign x) (a.eval E x) := by
  intro w I G act o ho g r
  exact ⟨_, by simp [execOp, ho], r.eval g x⟩
theorem Yld.pick {a : AS} (c x y : Operand) {b : Bool} (hc : a.eval E c = .bool b) : Yld E a (.pick c x y) (if b then a.eval E x else a.eval E y) := by
  intro w I G act o ho g r
  have h1 := r.eval g c
  rw [hc] at h1
  have h1 : act.eval c = .bool b := h1
  refine ⟨if b then act.eval x else act.eval y, by simp [execOp, ho, h1, asBool], ?_⟩
  cases b
  · exact r.eval g y
  · exact r.eval g x
theorem Yld.binOp {a : AS} (op : BinOp) (t : TypeId) (x y : Operand) (ty : TypeId) {v : PV} (hv : pbin op (a.eval E x) (a.eval E y) = some v) : Yld E a (.binOp op t x y ty) v := by
  intro w I G act o ho g r
  obtain ⟨u, hu, hr⟩ := pbin_run (E := E) (t := t) hv (r.eval g x) (r.eval g y) x y
  refine ⟨u, ?_, hr⟩
  simp only [execOp, ho, Sem.run_bind] at hu ⊢
  rw [hu]; rfl

/-! ### '==' and '!=' of what is no number and no string -/
def peqK : TK → PV → PV → Option Bool
  | .bool, .bool a, .bool b => some (a == b)
  | .ptr _, .val (.pointer none), .val (.pointer b) => some b.isNone
  | .ptr _, .val (.pointer (some _)), .val (.pointer none) => some false
  | .ptr _, .elem _, .val (.pointer none) => some false
  | .ptr _, .val (.pointer none), .elem _ => some false
  | .slice _, .val (.slice none _ _), .val (.slice b _ _) => some b.isNone
  | .slice _, .val (.slice (some _) _ _), .val (.slice none _ _) => some false
  | .map _ _, .val (.map none), .val (.map b) => some b.isNone
  | .map _ _, .val (.map (some _)), .val (.map none) => some false
  | .func, .val (.func ..), .val .nilFunc => some false
  | .func, .val .nilFunc, .val .nilFunc => some true
  | .iface, .iface .., .val .nilIface => some false
  | .iface, .val (.iface ..), .val .nilIface => some false
  | _, _, _ => none
def peq (E : Env) (t : TypeId) (x y : PV) : Option Bool :=
  match E.ty t with
  | some i => peqK i.k x y
  | none => none
theorem peq_run {t : TypeId} {x y : PV} {b : Bool} {u1 u2 : Value} (hv : peq E t x y = some b) (h1 : R w I x u1) (h2 : R w I y u2) (o1 o2 : Operand) :
    (do eqGuard .eql t o1 o2 u1 u2; binOp .eql t u1 u2 : Sem Value).run E.P w = .ok (.bool b) w ∧
    (do eqGuard .neq t o1 o2 u1 u2; binOp .neq t u1 u2 : Sem Value).run E.P w = .ok (.bool !b) w := by
  have key : ∀ {u1 u2 : Value}, (∀ cs, u1 ≠ .agg cs) → u1 ≠ .nilIface → binOp .eql t u1 u2 = (do pure (.bool (← Op.equal t u1 u2))) → binOp .neq t u1 u2 = (do pure (.bool (!(← Op.equal t u1 u2)))) →
      (Op.equal t u1 u2).run E.P w = .ok b w →
      (do eqGuard .eql t o1 o2 u1 u2; binOp .eql t u1 u2 : Sem Value).run E.P w = .ok (.bool b) w ∧ (do eqGuard .neq t o1 o2 u1 u2; binOp .neq t u1 u2 : Sem Value).run E.P w = .ok (.bool !b) w := by
    intro u1 u2 ha hn hb hb2 he
    constructor
    · rw [Sem.run_bind, run_eqGuard ha hn, Result.andThen_ok, hb]; simp [he]
    · rw [Sem.run_bind, run_eqGuard ha hn, Result.andThen_ok, hb2]; simp [he]
  obtain ⟨d, eqn⟩ : ∃ d, ∀ u1 u2, Op.equal t u1 u2 = Op.equalIn (d + 1) t u1 u2 := ⟨9999, fun _ _ => rfl⟩
  unfold peq at hv
  cases hty : E.ty t with
  | none => rw [hty] at hv; cases hv
  | some i =>
    rw [hty] at hv
    have hd := (E.agrees hty).desc
    dsimp only at hv
    unfold peqK at hv
    split at hv
    all_goals first | (cases hv; done) | injection hv with hv
    all_goals rename_i hk; rw [hk] at hd
    case h_4 =>
      obtain ⟨ad, us, rfl, _⟩ : ∃ ad us, _ := (by simpa only [R, R0, R1] using h1)
      obtain ⟨rfl, _⟩ : _ ∧ _ := h2
      exact key (fun cs => by simp) (by simp) rfl rfl (by rw [eqn]; simp [Op.equalIn, run_underlying hd, hv])
    case h_5 =>
      obtain ⟨rfl, _⟩ : _ ∧ _ := h1
      obtain ⟨ad, us, rfl, _⟩ : ∃ ad us, _ := (by simpa only [R, R0, R1] using h2)
      exact key (fun cs => by simp) (by simp) rfl rfl (by rw [eqn]; simp [Op.equalIn, run_underlying hd, hv])
    case h_1 =>
      obtain rfl : u1 = _ := h1
      obtain rfl : u2 = _ := h2
      exact key (fun cs => by simp) (by simp) rfl rfl (by rw [eqn, run_equalIn_bool' _ _ _ _ _ hd, hv])
    case h_12 =>
      obtain ⟨ms, hd⟩ := hd
      obtain ⟨us, rfl, _⟩ : ∃ us, _ := (by simpa only [R, R0, R1] using h1)
      obtain ⟨rfl, _⟩ : _ ∧ _ := h2
      exact key (fun cs => by simp) (by simp) rfl rfl (by rw [eqn]; simp [Op.equalIn, run_underlying hd, hv])
    case h_10 =>
      obtain ⟨ps, rs, vv, hd⟩ := hd
      obtain ⟨rfl, _⟩ : _ ∧ _ := h1
      obtain ⟨rfl, _⟩ : _ ∧ _ := h2
      exact key (fun cs => by simp) (by simp) rfl rfl (by rw [eqn]; simp [Op.equalIn, run_underlying hd, hv])
    case h_11 =>
      obtain ⟨ps, rs, vv, hd⟩ := hd
      obtain ⟨rfl, _⟩ : _ ∧ _ := h1
      obtain ⟨rfl, _⟩ : _ ∧ _ := h2
      exact key (fun cs => by simp) (by simp) rfl rfl (by rw [eqn]; simp [Op.equalIn, run_underlying hd, hv])
    case h_13 =>
      obtain ⟨ms, hd⟩ := hd
      obtain ⟨rfl, _⟩ : _ ∧ _ := h1
      obtain ⟨rfl, _⟩ : _ ∧ _ := h2
      exact key (fun cs => by simp) (by simp) rfl rfl (by rw [eqn]; simp [Op.equalIn, run_underlying hd, hv])
    all_goals
      obtain ⟨rfl, _⟩ : _ ∧ _ := h1
      obtain ⟨rfl, _⟩ : _ ∧ _ := h2
      exact key (fun cs => by simp) (by simp) rfl rfl (by rw [eqn]; simp [Op.equalIn, run_underlying hd, hv])
theorem Yld.eql {a : AS} (t : TypeId) (x y : Operand) (ty : TypeId) {b : Bool} (hv : peq E t (a.eval E x) (a.eval E y) = some b) : Yld E a (.binOp .eql t x y ty) (.bool b) := by
  intro w I G act o ho g r
  have := (peq_run hv (r.eval g x) (r.eval g y) x y).1
  exact ⟨.bool b, by simp only [execOp, ho, Sem.run_bind] at this ⊢; rw [this]; rfl, rfl⟩
theorem Yld.neq {a : AS} (t : TypeId) (x y : Operand) (ty : TypeId) {b : Bool} (hv : peq E t (a.eval E x) (a.eval E y) = some b) : Yld E a (.binOp .neq t x y ty) (.bool (!b)) := by
  intro w I G act o ho g r
  have := (peq_run hv (r.eval g x) (r.eval g y) x y).2
  exact ⟨.bool (!b), by simp only [execOp, ho, Sem.run_bind] at this ⊢; rw [this]; rfl, rfl⟩

/-! ### One operand -/
def pun (op : UnOp) : PV → Option PV
  | .int k n => match op with
    | .neg => some (.int k (k.wrap (0 - n)))
    | .xor => some (.int k (bitsOp .xor k (if k.signed then -1 else k.max) n))
    | _ => none
  | .bool b => match op with
    | .not => some (.bool (!b))
    | _ => none
  | _ => none
theorem Yld.unOp {a : AS} (op : UnOp) (t : TypeId) (x : Operand) {v : PV} (hv : pun op (a.eval E x) = some v) : Yld E a (.unOp op t x) v := by
  intro w I G act o ho g r
  have h1 := r.eval g x
  generalize a.eval E x = p at *
  unfold pun at hv
  split at hv
  · rename_i k n
    have h1 : act.eval x = .int k n := h1
    split at hv
    · injection hv with hv; subst hv
      exact ⟨_, by simp [execOp, ho, h1, Op.unary, Op.intArith], rfl⟩
    · injection hv with hv; subst hv
      exact ⟨_, by simp [execOp, ho, h1, Op.unary, Op.intBits, bitsOp], rfl⟩
    · cases hv
  · rename_i b
    have h1 : act.eval x = .bool b := h1
    split at hv
    · injection hv with hv; subst hv
      exact ⟨_, by simp [execOp, ho, h1, Op.unary], rfl⟩
    · cases hv
  · cases hv
theorem Yld.nilCheck {a : AS} (x : Operand) {ad : Addr} (hx : a.eval E x = .val (.pointer (some ad))) : Yld E a (.nilCheck x) (.val (.pointer (some ad))) := by
  intro w I G act o ho g r
  have h1 := r.eval g x
  rw [hx] at h1
  have h1' : act.eval x = .pointer (some ad) := h1.1
  exact ⟨_, by simp [execOp, ho, h1'], rfl, rfl⟩
theorem Yld.nilCheck_elem {a : AS} (x : Operand) {cs : List PV} (hx : a.eval E x = .elem cs) : Yld E a (.nilCheck x) (.elem cs) := by
  intro w I G act o ho g r
  have h1 := r.eval g x
  rw [hx] at h1
  obtain ⟨ad, us, e, h2⟩ : ∃ ad us, _ := (by simpa only [R, R0, R1] using h1)
  refine ⟨act.eval x, by simp [execOp, ho, e], ?_⟩
  exact h1
theorem Yld.makeFunc {a : AS} (fn : Fn) (caps : Array Operand) (vs : List Value) (hx : caps.toList.map (a.eval E) = vs.map ofVal) (hvs : vs.all Value.oneCell' = true) (hp : ∀ v ∈ vs, ∀ t z, v ≠ .iface t z) :
    Yld E a (.makeFunc fn #[] caps) (.val (.func fn #[] vs.toArray)) := by
  intro w I G act o ho g r
  have : caps.toList.map act.eval = vs := by
    have key : ∀ (xs : List Operand) (vs : List Value), xs.map (a.eval E) = vs.map ofVal → vs.all Value.oneCell' = true → xs.map act.eval = vs := by
      intro xs
      induction xs with
      | nil => intro vs h _; cases vs with
        | nil => rfl
        | cons => simp at h
      | cons x xs ih =>
        intro vs h hv
        cases vs with
        | nil => simp at h
        | cons v vs =>
          simp only [List.map_cons, List.cons.injEq, List.all_cons, Bool.and_eq_true] at h hv ⊢
          refine ⟨?_, ih vs h.2 hv.2⟩
          have h1 := r.eval g x
          rw [h.1] at h1
          cases v with
          | string s =>
            have h1 : act.eval x = .string ⟨s.data.toList.toArray⟩ := h1
            rw [h1, Go.Joins.bytes_eta]
          | agg cs => simp [Value.oneCell'] at hv
          | tuple cs => simp [Value.oneCell'] at hv
          | int k n => exact h1
          | bool b => exact h1
          | _ => exact h1.1
    exact key _ _ hx hvs
  refine ⟨.func fn #[] vs.toArray, ?_, rfl, rfl⟩
  simp only [execOp, ho, Instr.makeFunc]
  have e : caps.map act.eval = vs.toArray := by apply Array.ext'; rw [← this]; simp
  rw [e]
  simp

/-! ### Conversions -/
theorem Yld.convert_int {a : AS} {s t : TypeId} (x : Operand) {k k' : IntKind} {n : Int} {i j : TyI} (hs : E.ty s = some i) (ht : E.ty t = some j) (hk : j.k = .int k) (hx : a.eval E x = .int k' n) : Yld E a (.convert s t x) (.int k (k.wrap n)) := by
  intro w I G act o ho g r
  have h1 := r.eval g x
  rw [hx] at h1
  have h1 : act.eval x = .int k' n := h1
  have hd := (E.agrees ht).desc
  rw [hk] at hd
  obtain ⟨d, hd'⟩ : ∃ d, E.P.underlying s = some d := by
    have := (E.agrees hs).desc
    cases hik : i.k <;> simp only [hik, TK.desc] at this
    case struct => obtain ⟨f, this, _⟩ := this; exact ⟨_, this⟩
    case func => obtain ⟨_, _, _, this⟩ := this; exact ⟨_, this⟩
    case iface => obtain ⟨_, this⟩ := this; exact ⟨_, this⟩
    all_goals exact ⟨_, this⟩
  exact ⟨_, by simp [execOp, ho, h1, convert, run_underlying hd, run_underlying hd', Conv.intToInt], rfl⟩
theorem Yld.makeInterface {a : AS} {t : TypeId} (x : Operand) {i : TyI} {v : PV} (ht : E.ty t = some i) (hk : (match i.k with | .iface => false | _ => true) = true)
    (hx : a.eval E x = v) {cs : List PV} {ag : Bool} (hv : (v = .agg cs ∧ ag = true) ∨ (cs = [v] ∧ ag = false ∧ (∀ c, v ≠ .agg c) ∧ (∀ c, v ≠ .tuple c) ∧ v ≠ .any)) : Yld E a (.makeInterface t x) (.iface t ag cs) := by
  intro w I G act o ho g r
  have h1 := r.eval g x
  rw [hx] at h1
  have hd := (E.agrees ht).desc
  have hr : (Instr.makeInterface t (act.eval x)).run E.P w = .ok (.iface t (act.eval x)) w := by
    cases hik : i.k <;> simp only [hik, TK.desc] at hd hk
    case struct => obtain ⟨f, hd, _⟩ := hd; simp [Instr.makeInterface, run_underlying hd]
    case func => obtain ⟨_, _, _, hd⟩ := hd; simp [Instr.makeInterface, run_underlying hd]
    case iface => cases hk
    all_goals simp [Instr.makeInterface, run_underlying hd]
  refine ⟨_, by simp only [execOp, ho, Sem.run_bind]; rw [hr]; rfl, ?_⟩
  show R1 w I _ _
  simp only [R1]
  rcases hv with ⟨rfl, rfl⟩ | ⟨rfl, rfl, n1, n2, n3⟩
  · obtain ⟨us, e, h2⟩ : ∃ us, _ := h1
    exact ⟨us, by rw [e]; rfl, h2⟩
  · refine ⟨[act.eval x], rfl, ?_⟩
    simp only [RL]
    refine ⟨_, _, rfl, ?_, rfl⟩
    cases v <;> first | exact h1 | exact absurd rfl (n1 _) | exact absurd rfl (n2 _) | exact absurd rfl n3
end
end Go.Proofs.Ythlibdhjcjangaa.Lift
