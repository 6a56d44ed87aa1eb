/- The rules of the lifted calculus: code. -/
import Derived.Test.YthlibdhjcjangaaLiftB
import Derived.Deep.LoopGhost
import Derived.Orders
set_option linter.unusedSimpArgs false
set_option linter.unusedVariables false
namespace Go.Proofs.Ythlibdhjcjangaa.Lift
open Go Go.RowKit

section
variable {E : Env} {w w1 w' : World} {I I1 I' : Nat → Prop} {G G1 G' : Nat → Option Nat}

/-- What holds behind a piece of code that began in a world. -/
def Post (E : Env) (w : World) (I : Nat → Prop) (G : Nat → Option Nat) (h : Heap) (Q : Exit → AS → Prop) : Exit → Act → World → Prop :=
  fun e act w' => ∃ a I' G', Good E w' I' G' a.h ∧ RS w' I' a act ∧ Stp w I G h w' I' G' a.h ∧ Q e a
/-- A piece of code, in the lifted calculus. -/
def SW (E : Env) (c : Code) (Q : Exit → AS → Prop) (a : AS) : Prop :=
  ∀ w I G act, Good E w I G a.h → RS w I a act → c.wp E.P (Post E w I G a.h Q) act w
/-- What is left of a region. -/
def SWO (E : Env) (ops : Array Oper) (rest : List Oper) (Q : Exit → AS → Prop) (a : AS) : Prop :=
  ∀ w I G act, Good E w I G a.h → RS w I a act → wpList E.P ops (Post E w I G a.h Q) rest act w

theorem Post.trans {h h1 : Heap} {Q : Exit → AS → Prop} (s : Stp w I G h w1 I1 G1 h1) {e : Exit} {act : Act} (p : Post E w1 I1 G1 h1 Q e act w') : Post E w I G h Q e act w' := by
  obtain ⟨a, I', G', g, r, t, q⟩ := p
  exact ⟨a, I', G', g, r, s.trans t, q⟩
theorem Post.mono {h : Heap} {Q Q' : Exit → AS → Prop} (hq : ∀ e a, Q e a → Q' e a) {e : Exit} {act : Act} (p : Post E w I G h Q e act w') : Post E w I G h Q' e act w' := by
  obtain ⟨a, I', G', g, r, t, q⟩ := p
  exact ⟨a, I', G', g, r, t, hq _ _ q⟩

theorem SW.mono {c : Code} {Q Q' : Exit → AS → Prop} {a : AS} (h : SW E c Q a) (hq : ∀ e a, Q e a → Q' e a) : SW E c Q' a :=
  fun w I G act g r => wp_mono (h w I G act g r) fun _ _ _ p => p.mono hq

def thenQ (N : AS → Prop) (Q : Exit → AS → Prop) : Exit → AS → Prop
  | .normal, a => N a
  | e, a => Q e a
def inQ (id : Nat) (Q : Exit → AS → Prop) : Exit → AS → Prop
  | .exit id', a => if id' = id then Q .normal a else Q (.exit id') a
  | e, a => Q e a

theorem SW.seq {x y : Code} {Q : Exit → AS → Prop} {a : AS} (h : SW E x (thenQ (SW E y Q) Q) a) : SW E (.seq x y) Q a := by
  intro w I G act g r
  refine wp_seq (wp_mono (h w I G act g r) ?_)
  intro e act' w' ⟨a', I', G', g', r', s', q⟩
  cases e with
  | normal => exact wp_mono (q w' I' G' act' g' r') fun _ _ _ p => p.trans s'
  | exit id => exact ⟨a', I', G', g', r', s', q⟩
  | goto l => exact ⟨a', I', G', g', r', s', q⟩
  | ret => exact ⟨a', I', G', g', r', s', q⟩
  | panic c => exact ⟨a', I', G', g', r', s', q⟩
  | outgrown => exact ⟨a', I', G', g', r', s', q⟩
/-- A sequence, cut between its parts. -/
theorem SW.cut {x y : Code} {Q : Exit → AS → Prop} {a : AS} (M : AS → Prop) (h : SW E x (thenQ M Q) a) (k : ∀ a, M a → SW E y Q a) : SW E (.seq x y) Q a :=
  SW.seq (h.mono fun e a q => by cases e <;> first | exact k a q | exact q)
theorem SW.skip {Q : Exit → AS → Prop} {a : AS} (h : Q .normal a) : SW E .skip Q a :=
  fun w I G act g r => wp_skip ⟨a, I, G, g, r, .refl .., h⟩
theorem SW.label {l : Nat} {Q : Exit → AS → Prop} {a : AS} (h : Q .normal a) : SW E (.label l) Q a :=
  fun w I G act g r => wp_label ⟨a, I, G, g, r, .refl .., h⟩
theorem SW.exit {id : Nat} {Q : Exit → AS → Prop} {a : AS} (h : Q (.exit id) a) : SW E (.exit id) Q a :=
  fun w I G act g r => wp_exit ⟨a, I, G, g, r, .refl .., h⟩
theorem SW.ret {Q : Exit → AS → Prop} {a : AS} (h : Q .ret a) : SW E .ret Q a :=
  fun w I G act g r => wp_ret ⟨a, I, G, g, r, .refl .., h⟩
theorem SW.block {id : Nat} {c : Code} {Q : Exit → AS → Prop} {a : AS} (h : SW E c (inQ id Q) a) : SW E (.block id c) Q a := by
  intro w I G act g r
  refine wp_block (wp_mono (h w I G act g r) ?_)
  intro e act' w' ⟨a', I', G', g', r', s', q⟩
  cases e with
  | normal => exact ⟨a', I', G', g', r', s', q⟩
  | exit id' =>
    simp only [Exit.inBlock]
    simp only [inQ] at q
    split
    · rename_i e; rw [if_pos e] at q; exact ⟨a', I', G', g', r', s', q⟩
    · rename_i e; rw [if_neg e] at q; exact ⟨a', I', G', g', r', s', q⟩
  | goto l => exact ⟨a', I', G', g', r', s', q⟩
  | ret => exact ⟨a', I', G', g', r', s', q⟩
  | panic c => exact ⟨a', I', G', g', r', s', q⟩
  | outgrown => exact ⟨a', I', G', g', r', s', q⟩
theorem SW.loop {c : Code} {Q : Exit → AS → Prop} {a : AS} (Inv : Nat → AS → Prop) (n₀ : Nat) (h₀ : Inv n₀ a)
    (round : ∀ n a, Inv n a → SW E c (thenQ (fun a' => ∃ n', n' < n ∧ Inv n' a') Q) a) : SW E (.loop c) Q a := by
  intro w I G act g r
  refine wp_loop_ghost (fun n act' w' => ∃ a' I' G', Good E w' I' G' a'.h ∧ RS w' I' a' act' ∧ Stp w I G a.h w' I' G' a'.h ∧ Inv n a') n₀ ⟨a, I, G, g, r, .refl .., h₀⟩ ?_
  intro n act' w' ⟨a', I', G', g', r', s', q⟩
  refine wp_mono (round n a' q w' I' G' act' g' r') ?_
  intro e act2 w2 ⟨a2, I2, G2, g2, r2, s2, q2⟩
  cases e with
  | normal => obtain ⟨n', hl, hi⟩ := q2; exact ⟨n', hl, a2, I2, G2, g2, r2, s'.trans s2, hi⟩
  | exit id => exact ⟨a2, I2, G2, g2, r2, s'.trans s2, q2⟩
  | goto l => exact ⟨a2, I2, G2, g2, r2, s'.trans s2, q2⟩
  | ret => exact ⟨a2, I2, G2, g2, r2, s'.trans s2, q2⟩
  | panic c => exact ⟨a2, I2, G2, g2, r2, s'.trans s2, q2⟩
  | outgrown => exact ⟨a2, I2, G2, g2, r2, s'.trans s2, q2⟩

theorem R_ofVal (w : World) (I : Nat → Prop) (v : Value) : R w I (ofVal v) v := by
  cases v <;> simp [ofVal, R, R0, R1, Value.oneCell']
theorem R_ofConst (w : World) (I : Nat → Prop) (v : Value) : R w I (ofConst v) v := by
  cases v with
  | agg cs =>
    simp only [ofConst]
    split
    · rename_i h
      exact ⟨cs.toList, by simp, RL_ofVal w I _ (fun u hu => by rw [List.all_eq_true] at h; exact h u hu)⟩
    · trivial
  | _ => simp [ofConst, ofVal, R, R0, R1, Value.oneCell']
theorem RS.eval {a : AS} {act : Act} (g : Good E w I G a.h) (r : RS w I a act) (x : Operand) : R w I (a.eval E x) (act.eval x) := by
  cases x with
  | tmp t => exact r.slot t
  | const v => exact R_ofConst w I v
  | global gl =>
    simp only [AS.eval, Act.eval]
    cases e : look E.gl gl with
    | none => exact ⟨rfl, rfl⟩
    | some cs => exact g.glob _ _ e
  | func f => exact ⟨rfl, rfl⟩
theorem RS.eval_tmp {a : AS} {act : Act} (r : RS w I a act) (t : Nat) : R w I (a.get t) (act.eval (.tmp t)) := r.slot t

theorem SW.cond {t : Nat} {x y : Code} {b : Bool} {Q : Exit → AS → Prop} {a : AS} (hc : a.get t = .bool b) (h : SW E (if b then x else y) Q a) : SW E (.cond (.tmp t) x y) Q a := by
  intro w I G act g r
  have := r.eval_tmp t
  rw [hc] at this
  exact wp_cond this (h w I G act g r)
theorem SW.cond_split {t : Nat} {x y : Code} {b : Bool} {Q : Exit → AS → Prop} {a : AS} (hc : a.get t = .bool b) (h1 : b = true → SW E x Q a) (h2 : b = false → SW E y Q a) : SW E (.cond (.tmp t) x y) Q a := by
  refine SW.cond hc ?_
  cases b
  · exact h2 rfl
  · exact h1 rfl

/-- Less is known of the slots. -/
def AS.keep (a : AS) (l : List Nat) : AS := { a with s := a.s.filter fun x => l.contains x.1 }
theorem look_filter (p : Nat → Bool) (t : Nat) : ∀ s : List (Nat × PV), look (s.filter fun x => p x.1) t = if p t then look s t else none
  | [] => by simp [look]
  | x :: s => by
    by_cases hx : p x.1 = true
    · rw [List.filter_cons_of_pos (by simpa using hx)]
      simp only [look, look_filter p t s]
      by_cases e : x.1 = t
      · simp [← e, hx]
      · simp [e]
    · rw [List.filter_cons_of_neg (by simpa using hx), look_filter p t s]
      simp only [look]
      by_cases e : x.1 = t
      · subst e; simp [hx]
      · simp [e]
theorem RS.weaken {a b : AS} {act : Act} (r : RS w I a act) (hn : b.n = a.n) (h : ∀ t, b.get t = a.get t ∨ b.get t = .any) : RS w I b act :=
  ⟨r.defers, r.size.trans hn.symm, fun t => by
    rcases h t with e | e
    · rw [e]; exact r.slot t
    · rw [e]; trivial⟩
theorem AS.get_keep (a : AS) (l : List Nat) (t : Nat) : (a.keep l).get t = a.get t ∨ (a.keep l).get t = .any := by
  unfold AS.keep AS.get
  simp only [look_filter (fun k => l.contains k)]
  split
  · exact .inl rfl
  · exact .inr rfl
theorem SW.keep {c : Code} {Q : Exit → AS → Prop} {a : AS} (l : List Nat) (h : SW E c Q (a.keep l)) : SW E c Q a :=
  fun w I G act g r => h w I G act g (r.weaken rfl (AS.get_keep a l))
theorem SW.weaken {c : Code} {Q : Exit → AS → Prop} {a : AS} (b : AS) (hn : b.n = a.n) (hh : b.h = a.h) (hs : ∀ t, b.get t = a.get t ∨ b.get t = .any) (h : SW E c Q b) : SW E c Q a :=
  fun w I G act g r => by
    have := h w I G act (hh ▸ g) (r.weaken hn hs)
    rw [hh] at this
    exact this

/-! ### Regions that draw no order -/
theorem SW.region {id : Nat} {l : List Oper} {Q : Exit → AS → Prop} {a : AS} (h : SWO E l.toArray l Q a) : SW E (.region id l.toArray false) Q a :=
  fun w I G act g r => wp_region_lit (h w I G act g r)
theorem SWO.nil {ops : Array Oper} {Q : Exit → AS → Prop} {a : AS} (h : Q .normal a) : SWO E ops [] Q a :=
  fun w I G act g r => wpList_nil ⟨a, I, G, g, r, .refl .., h⟩
theorem LetsOut.mono {Q Q' : Exit → Act → World → Prop} (hq : ∀ e a w, Q e a w → Q' e a w) (h : LetsOut Q) : LetsOut Q' := by
  obtain ⟨a, w, h⟩ := h
  exact ⟨a, w, hq _ _ _ h⟩
theorem upon_mono {P : Program} {o : Oper} {a : Act} {K K' : Act → World → Prop} {Q Q' : Exit → Act → World → Prop} (hk : ∀ a w, K a w → K' a w) (hq : ∀ e a w, Q e a w → Q' e a w) {r : Result Next}
    (h : o.upon P a K Q r) : o.upon P a K' Q' r := by
  cases r with
  | ok n w =>
    cases n with
    | value v => exact hk _ _ h
    | skip => exact hk _ _ h
    | defer d => exact hk _ _ h
    | enter f args =>
      rw [Oper.upon_enter] at h ⊢
      refine h.mono ?_
      intro e w' hh
      cases e with
      | returned v => exact hk _ _ hh
      | panicked c => exact hq _ _ _ hh
      | outgrown => exact LetsOut.mono hq hh
    | row row args => exact Rows.mono h fun _ _ hh => hk _ _ hh
    | _ => exact h
  | halt x w =>
    cases x with
    | panic v => exact hq _ _ _ h
    | _ => exact h
theorem wpList_mono {P : Program} {ops : Array Oper} {Q Q' : Exit → Act → World → Prop} (hq : ∀ e a w, Q e a w → Q' e a w) : ∀ (rest : List Oper) (a : Act) (w : World), wpList P ops Q rest a w → wpList P ops Q' rest a w
  | [], _, _, h => hq _ _ _ h
  | o :: rest, a, w, h => by
    unfold wpList at h ⊢
    split
    · rename_i hw
      rw [if_pos hw] at h
      rcases h with h | ⟨h1, h2⟩
      · exact .inl (upon_mono (fun a w => wpList_mono hq rest a w) hq h)
      · exact .inr ⟨h1, LetsOut.mono hq h2⟩
    · rename_i hw
      rw [if_neg hw] at h
      exact wpList_mono hq rest _ _ h
theorem SWO.mono {ops : Array Oper} {rest : List Oper} {Q Q' : Exit → AS → Prop} {a : AS} (h : SWO E ops rest Q a) (hq : ∀ e a, Q e a → Q' e a) : SWO E ops rest Q' a :=
  fun w I G act g r => wpList_mono (fun _ _ _ p => p.mono hq) _ _ _ (h w I G act g r)
/-- What follows an operation that has led to another world. -/
theorem SWO.on {ops : Array Oper} {rest : List Oper} {Q : Exit → AS → Prop} {a : AS} {h : Heap} (k : SWO E ops rest Q a) (s : Stp w I G h w1 I1 G1 a.h) {act : Act} (g : Good E w1 I1 G1 a.h) (r : RS w1 I1 a act) :
    wpList E.P ops (Post E w I G h Q) rest act w1 :=
  wpList_mono (fun _ _ _ p => p.trans s) _ _ _ (k w1 I1 G1 act g r)

/-- Is an operation carried out? -/
def wantedA (ops : Array Oper) (a : AS) (o : Oper) : Option Bool :=
  match o.guard with
  | none => some true
  | some (j, b) => match (ops[j]?).bind (·.dst) with
    | some d => match a.get d with
      | .bool c => some (c == b)
      | .tuple [] => some false
      | _ => none
    | none => none
theorem RS.wanted {ops : Array Oper} {a : AS} {act : Act} {o : Oper} {x : Bool} (r : RS w I a act) (h : wantedA ops a o = some x) : Region.wanted o (yielded ops act.tmps) = x := by
  unfold wantedA at h
  unfold Region.wanted
  split at h
  · rename_i e; rw [e]; injection h
  · rename_i j b e
    rw [e]
    split at h
    · rename_i d hd
      split at h
      · rename_i c hc
        injection h with h
        have := r.slot d
        rw [hc] at this
        have hs : act.tmps.getD d undef = .bool c := this
        have : act.tmps[d]? = some (.bool c) := by
          rw [Array.getD_eq_getD_getElem?] at hs
          cases e2 : act.tmps[d]? with
          | none => rw [e2] at hs; cases hs
          | some u => rw [e2] at hs; simpa using hs
        simp only [yielded, hd, Option.bind_some, this]
        rw [← h]
        cases c <;> cases b <;> rfl
      · rename_i hc
        injection h with h
        have := r.slot d
        rw [hc] at this
        obtain ⟨us, hs, hu⟩ := this
        have hu : us = [] := hu
        subst hu
        have hs : act.tmps.getD d undef = .tuple #[] := hs
        rw [← h]
        rw [Array.getD_eq_getD_getElem?] at hs
        simp only [yielded, hd, Option.bind_some]
        cases e2 : act.tmps[d]? with
        | none => rfl
        | some u =>
          rw [e2] at hs
          simp only [Option.getD_some] at hs
          subst hs
          rfl
      · cases h
    · cases h

/-- An operation that yields a value and leaves the world. -/
theorem SWO.val {ops : Array Oper} {o : Oper} {rest : List Oper} {Q : Exit → AS → Prop} {a : AS} (v : PV) (hg : wantedA ops a o = some true) (hd : okDst a.n o.dst = true)
    (hrun : ∀ w I G act, Good E w I G a.h → RS w I a act → ∃ u, (execOp act.eval o).run E.P w = .ok (.value u) w ∧ R w I v u)
    (k : SWO E ops rest Q (a.put o.dst v)) : SWO E ops (o :: rest) Q a := by
  intro w I G act g r
  obtain ⟨u, hu, hv⟩ := hrun w I G act g r
  unfold wpList
  rw [if_pos (r.wanted hg)]
  refine .inl ?_
  unfold Oper.wp
  rw [hu]
  have hh : (a.put o.dst v).h = a.h := by cases o.dst <;> rfl
  have := k w I G (act.put o.dst u) (hh ▸ g) (r.put hd hv)
  rw [hh] at this
  exact this
/-- A guard that is off: the operation is passed over. -/
theorem SWO.off {ops : Array Oper} {o : Oper} {rest : List Oper} {Q : Exit → AS → Prop} {a : AS} (hg : wantedA ops a o = some false) (hd : okDst a.n o.dst = true)
    (k : SWO E ops rest Q (a.put o.dst (.tuple []))) : SWO E ops (o :: rest) Q a := by
  intro w I G act g r
  unfold wpList
  rw [if_neg (by rw [r.wanted hg]; simp)]
  have hh : (a.put o.dst (.tuple [])).h = a.h := by cases o.dst <;> rfl
  have := k w I G (act.put o.dst undef) (hh ▸ g) (r.put hd ⟨[], rfl, rfl⟩)
  rw [hh] at this
  exact this
/-- An operation that yields a value in a world that it turns. -/
theorem SWO.to {ops : Array Oper} {o : Oper} {rest : List Oper} {Q : Exit → AS → Prop} {a : AS} (hg : wantedA ops a o = some true) (hd : okDst a.n o.dst = true)
    (hrun : ∀ w I G act, Good E w I G a.h → RS w I a act → ∃ n u w' I' G' h' v, (execOp act.eval o).run E.P w = .ok n w' ∧ (n = .value u ∨ n = .skip ∧ u = undef) ∧ Good E w' I' G' h' ∧ Stp w I G a.h w' I' G' h' ∧ R w' I' v u ∧
      SWO E ops rest Q { a.put o.dst v with h := h' }) : SWO E ops (o :: rest) Q a := by
  intro w I G act g r
  obtain ⟨n, u, w', I', G', h', v, hu, hn, g', s, hv, k⟩ := hrun w I G act g r
  unfold wpList
  rw [if_pos (r.wanted hg)]
  refine .inl ?_
  have hr : RS w' I' { a.put o.dst v with h := h' } (act.put o.dst u) := by
    have r1 := (r.keeps (s.keeps g)).put hd hv
    exact ⟨r1.defers, r1.size, r1.slot⟩
  unfold Oper.wp
  rw [hu]
  rcases hn with rfl | ⟨rfl, rfl⟩ <;> exact SWO.on k s g' hr
end
end Go.Proofs.Ythlibdhjcjangaa.Lift
