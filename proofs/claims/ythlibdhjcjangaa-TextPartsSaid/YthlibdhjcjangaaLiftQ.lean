/- Regions that draw their order: one order serves all. -/
import Derived.Test.YthlibdhjcjangaaLiftP
set_option linter.unusedSimpArgs false
set_option linter.unusedVariables false
namespace Go.Proofs.Ythlibdhjcjangaa.Lift
open Go Go.RowKit

section
variable {E : Env} {S : Specs E} {w w1 w' : World} {I I1 I' : Nat → Prop} {G G1 G' : Nat → Option Nat} {h : Heap} {ops : Array Oper} {md : Region.Mode}

theorem info_at {P : Program} {t : TypeId} {i : TypeInfo} (h : P.types[t]? = some i) : P.info? t = some i := by
  have hlt : t < P.types.size := (Array.getElem?_eq_some_iff.1 h).1
  unfold Tables.info?
  rw [if_pos hlt, h]
theorem Ret_fin {v p : PV} {h h2 : Heap} : (∃ h', HTo E h2 h' ∧ Ret v h (.ret p) h') ↔ p = v ∧ HTo E h2 h := by
  constructor
  · rintro ⟨h', h1, h3, rfl⟩
    injection h3 with h3
    exact ⟨h3, h1⟩
  · rintro ⟨rfl, h1⟩
    exact ⟨h, h1, rfl, rfl⟩
theorem HTo_self (h : Heap) : HTo E h h ↔ True := ⟨fun _ => trivial, fun _ => .refl E h⟩
theorem HTo.put {h h' : Heap} (t : HTo E h' h) {r : Nat} (hr : h' r = none) (o : AObj) : HTo E (h'.put r o) h := ((HSub.refl h').put hr o).to.trans t
/-! ### States that say the same -/
def AEq (a b : AS) : Prop := a.n = b.n ∧ a.h = b.h ∧ ∀ t, a.get t = b.get t
theorem AEq.refl (a : AS) : AEq a a := ⟨rfl, rfl, fun _ => rfl⟩
theorem AEq.symm {a b : AS} (e : AEq a b) : AEq b a := ⟨e.1.symm, e.2.1.symm, fun t => (e.2.2 t).symm⟩
theorem AEq.trans {a b c : AS} (e : AEq a b) (f : AEq b c) : AEq a c := ⟨e.1.trans f.1, e.2.1.trans f.2.1, fun t => (e.2.2 t).trans (f.2.2 t)⟩
theorem AEq.eval {a b : AS} (e : AEq a b) : a.eval E = b.eval E := by
  funext x
  cases x <;> simp only [AS.eval]
  exact e.2.2 _
theorem AEq.put {a b : AS} (e : AEq a b) (d : Option Tmp) (v : PV) : AEq (a.put d v) (b.put d v) := by
  cases d with
  | none => exact e
  | some d => exact ⟨e.1, e.2.1, fun t => by rw [AS.get_put, AS.get_put, e.2.2]⟩
theorem AEq.heap {a b : AS} (e : AEq a b) (h : Heap) : AEq { a with h := h } { b with h := h } := ⟨e.1, rfl, e.2.2⟩
theorem put_comm (a : AS) {x y : Option Tmp} (v u : PV) (hne : ∀ d, x = some d → y ≠ some d) : AEq ((a.put x v).put y u) ((a.put y u).put x v) := by
  cases x with
  | none => exact .refl _
  | some d =>
    cases y with
    | none => exact .refl _
    | some e =>
      have hne : d ≠ e := fun he => hne d rfl (he ▸ rfl)
      refine ⟨rfl, rfl, fun t => ?_⟩
      simp only [AS.get_put]
      by_cases h1 : t = d <;> by_cases h2 : t = e <;> simp [h1, h2]
      · exact absurd (h1.symm.trans h2) hne
      · intro h3; exact absurd h3 hne
      · intro h3; exact absurd h3.symm hne
theorem AEq.wanted {a b : AS} (e : AEq a b) (o : Oper) : wantedA ops a o = wantedA ops b o := by
  unfold wantedA
  simp only [e.2.2]
theorem AEq.step1 {a b : AS} (e : AEq a b) {o : Oper} {K : AS → Prop} (hK : ∀ a b, AEq a b → K a → K b) (hs : step1 E S o a K) : step1 E S o b K := by
  have hev := e.eval (E := E)
  unfold Lift.step1 at hs ⊢
  rw [← hev, ← e.2.1]
  split
  · rename_i t hop
    simp only [hop] at hs
    exact ⟨hs.1, fun r hr => hK _ _ ((e.put _ _).heap _) (hs.2 r hr)⟩
  · rename_i t x hop
    simp only [hop] at hs
    exact ⟨hs.1, fun r hr => hK _ _ ((e.put _ _).heap _) (hs.2 r hr)⟩
  · rename_i h1 h2
    split at hs
    · rename_i t hop; exact absurd hop (h1 t)
    · rename_i t x hop; exact absurd hop (h2 t x)
    · split
      · rename_i hx1
        rw [if_pos hx1] at hs
        exact ⟨hs.1, hK _ _ ((e.put _ _).heap _) hs.2⟩
      · rename_i hx1
        rw [if_neg hx1] at hs
        exact ⟨hs.1, hK _ _ (e.put _ _) hs.2⟩

/-! ### The operation alone -/
theorem upon_mono_but {P : Program} {o : Oper} {a : Act} {K K' : Act → World → Prop} {Q Q' : Exit → Act → World → Prop} (hk : ∀ a w, K a w → K' a w) (hq : ∀ e a w, e ≠ .normal → Q e a w → Q' e a w) {r : Result Next}
    (h : o.upon P a K Q r) : o.upon P a K' Q' r := by
  have hl : LetsOut Q → LetsOut Q' := fun ⟨a, w, h⟩ => ⟨a, w, hq _ _ _ (fun e => by cases e) h⟩
  cases r with
  | ok n w =>
    cases n with
    | value v => exact hk _ _ h
    | skip => exact hk _ _ h
    | defer d => exact hk _ _ h
    | enter f args =>
      rw [Oper.upon_enter] at h ⊢
      refine h.mono ?_
      intro e w' hh
      cases e with
      | returned v => exact hk _ _ hh
      | panicked c => exact hq _ _ _ (fun e => by cases e) hh
      | outgrown => exact hl hh
    | row row args => exact Rows.mono h fun _ _ hh => hk _ _ hh
    | _ => exact h
  | halt x w =>
    cases x with
    | panic v => exact hq _ _ _ (fun e => by cases e) h
    | _ => exact h
theorem step1_wp {o : Oper} {a : AS} {K : AS → Prop} (hd : okDst a.n o.dst = true) (hs : step1 E S o a K) {act : Act} (g : Good E w I G a.h) (r : RS w I a act) {K' : Act → World → Prop} {Q' : Exit → Act → World → Prop}
    (k : ∀ a' act' w' I' G', Good E w' I' G' a'.h → RS w' I' a' act' → Stp w I G a.h w' I' G' a'.h → K a' → K' act' w') : o.wp E.P act w K' Q' := by
  obtain ⟨dst, op, ty, pos, after, guard⟩ := o
  have h1 : SWO E #[] [{ dst := dst, op := op, type := ty, pos := pos, after := after, guard := none }] (fun e a => e = .normal ∧ K a) a :=
    SWO.step1 (ops := #[]) (o := { dst := dst, op := op, type := ty, pos := pos, after := after, guard := none }) (rest := []) rfl hd (step1_mono (K' := SWO E #[] [] (fun e a => e = .normal ∧ K a)) (fun a ka => SWO.nil ⟨rfl, ka⟩) (by
      unfold Lift.step1 at hs ⊢
      exact hs))
  have h2 := h1 w I G act g r
  unfold wpList at h2
  rw [if_pos (by rfl)] at h2
  rcases h2 with h2 | ⟨_, h3⟩
  · have e : ∀ K Q, Oper.wp E.P { dst := dst, op := op, type := ty, pos := pos, after := after, guard := guard } act w K Q ↔ Oper.wp E.P { dst := dst, op := op, type := ty, pos := pos, after := after, guard := none } act w K Q := by
      intro K Q
      unfold Oper.wp
      rfl
    rw [e]
    unfold Oper.wp at h2 ⊢
    refine upon_mono_but (fun act' w' hh => ?_) (fun ex act' w' hne hh => ?_) h2
    · obtain ⟨a', I', G', g', r', s', _, ka⟩ := hh
      exact k a' act' w' I' G' g' r' s' ka
    · obtain ⟨_, _, _, _, _, _, hn, _⟩ := hh
      exact absurd hn hne
  · obtain ⟨_, _, _, _, _, _, _, _, hh, _⟩ := h3
    cases hh

/-! ### An operation looks at its operands alone -/
theorem pB_congr {ρ ρ' : Operand → PV} {x : Option Operand} {d : Nat} (h : ∀ y, x = some y → ρ y = ρ' y) : pB ρ x d = pB ρ' x d := by
  cases x with
  | none => rfl
  | some y => simp only [pB, h y rfl]
theorem px_congr {ρ ρ' : Operand → PV} {op : Op} (h0 : ∀ x ∈ op.operands, ρ x = ρ' x) : px E S ρ h op = px E S ρ' h op := by
  cases op <;> simp only [Op.operands] at h0 <;> simp only [px]
  case build t ps =>
    congr 1
    exact List.map_congr_left fun x hx => by rw [h0 x.2 (by simp only [List.mem_toArray, List.mem_map]; exact ⟨x, hx, rfl⟩)]
  case buildSlice t n ps =>
    congr 1
    exact List.map_congr_left fun x hx => by rw [h0 x.2 (by simp only [List.mem_toArray, List.mem_map]; exact ⟨x, hx, rfl⟩)]
  case makeFunc fn first caps =>
    rw [List.map_congr_left (l := caps.toList) (f := ρ) (g := ρ') fun x hx => h0 x (by simp at hx; simp [hx])]
  case slice t x lo hi m =>
    have hx : ρ x = ρ' x := h0 x (by simp)
    have hl : ∀ d, pB ρ lo d = pB ρ' lo d := fun d => pB_congr fun y e => h0 y (by simp [e])
    have hh : ∀ d, pB ρ hi d = pB ρ' hi d := fun d => pB_congr fun y e => h0 y (by simp [e])
    cases m <;> simp only [pslice, hx, hl, hh]
  case call c =>
    have hargs : ∀ x ∈ c.args.toList, ρ x = ρ' x := fun x hx => h0 x (by simp at hx; simp [Call.operands, hx])
    unfold pcall
    split
    · split
      · rename_i x t hx ht
        have : ρ x = ρ' x := hargs x (by rw [hx]; simp)
        rw [this]
      · rfl
    · split
      · rename_i x hx
        have : ρ x = ρ' x := hargs x (by rw [hx]; simp)
        rw [this]
      · rfl
    · split
      · rename_i x y hxy
        rw [hargs x (by rw [hxy]; simp), hargs y (by rw [hxy]; simp)]
      · rfl
    · split
      · rename_i x y hxy
        rw [hargs x (by rw [hxy]; simp), hargs y (by rw [hxy]; simp)]
      · rfl
    · split
      · rename_i x hx
        have : ρ x = ρ' x := hargs x (by rw [hx]; simp)
        rw [this]
      · rfl
    · rw [List.map_congr_left hargs]
      have : (c.args.toList.all fun x => okArg (ρ x)) = (c.args.toList.all fun x => okArg (ρ' x)) := by
        rw [Bool.eq_iff_iff, List.all_eq_true, List.all_eq_true]
        constructor <;> intro hh x hx
        · rw [← hargs x hx]; exact hh x hx
        · rw [hargs x hx]; exact hh x hx
      rw [this]
    · rfl
  all_goals (first | rfl | (simp at h0; simp [h0]; done))
theorem eval_put {a : AS} {d : Option Tmp} {v : PV} {x : Operand} (hx : ∀ t, d = some t → x ≠ .tmp t) : (a.put d v).eval E x = a.eval E x := by
  cases d with
  | none => rfl
  | some t =>
    cases x with
    | tmp u =>
      simp only [AS.eval, AS.get_put]
      rw [if_neg (fun e => hx t rfl (by rw [e]))]
    | _ => rfl
theorem px_put {a : AS} {o : Oper} {d : Option Tmp} {v : PV} (hd : ∀ t, d = some t → t ∉ o.looksAt ops) : px E S ((a.put d v).eval E) h o.op = px E S (a.eval E) h o.op :=
  px_congr fun x hx => eval_put fun t e e2 => hd t e (by subst e2; exact List.mem_append_left _ (List.mem_filterMap.2 ⟨.tmp t, by simpa using hx, rfl⟩))
theorem wanted_putA {a : AS} {o : Oper} {d : Option Tmp} {v : PV} (hd : ∀ t, d = some t → t ∉ o.looksAt ops) : wantedA ops (a.put d v) o = wantedA ops a o := by
  cases d with
  | none => rfl
  | some d =>
    unfold wantedA
    cases hg : o.guard with
    | none => rfl
    | some gw =>
      obtain ⟨g, want⟩ := gw
      dsimp only
      cases ht : (ops[g]?).bind (·.dst) with
      | none => rfl
      | some t =>
        dsimp only
        have hne : t ≠ d := fun e => hd d rfl (by subst e; simp [Oper.looksAt, hg, ht])
        rw [AS.get_put, if_neg hne]
def isLoad : Op → Bool
  | .load .. => true
  | .convert .. => true
  | _ => false
/-- It yields a value and leaves what is owned. -/
def quietOp : Op → Bool
  | .alloc _ | .box .. => false
  | op => !hxOp op
theorem hx_congr {ρ ρ' : Operand → PV} {op : Op} (h0 : ∀ x ∈ op.operands, ρ x = ρ' x) : hx E ρ h op = hx E ρ' h op := by
  cases op <;> try rfl
  case store t p x =>
    simp only [Op.operands] at h0
    simp only [hx, h0 p (by simp), h0 x (by simp)]
  case call c =>
    simp only [Op.operands] at h0
    have hargs : ∀ x ∈ c.args.toList, ρ x = ρ' x := fun x hx => h0 x (by simp at hx; simp [Call.operands, hx])
    simp only [hx]
    split
    · rename_i x y hxy
      rw [hargs x (by rw [hxy]; simp), hargs y (by rw [hxy]; simp)]
    · rfl
theorem px_heap {ρ : Operand → PV} {op : Op} (hl : isLoad op = false) (h h' : Heap) : px E S ρ h op = px E S ρ h' op := by
  cases op <;> first | rfl | cases hl
theorem px_fresh {ρ : Operand → PV} {op : Op} {r : Nat} {o : AObj} (hr : h r = none) (hp : (px E S ρ h op).1) : px E S ρ (h.put r o) op = px E S ρ h op := by
  cases hl : isLoad op with
  | false => exact px_heap hl _ _
  | true =>
    cases op <;> try (exact Bool.noConfusion hl)
    case convert s t x =>
      simp only [px] at hp ⊢
      cases hs : E.ty s with
      | none => rfl
      | some i =>
        cases ht : E.ty t with
        | none => rfl
        | some j =>
          rw [hs, ht] at hp
          dsimp only at hp ⊢
          unfold pconvH at hp ⊢
          split
          · rename_i r' o' hx
            rw [hx] at hp
            dsimp only at hp
            have : r' ≠ r := by
              intro e
              subst e
              rw [hr] at hp
              exact hp
            rw [Heap.put_ne _ _ this]
          · rfl
    rename_i t x
    simp only [px, pload] at hp ⊢
    cases ht : E.ty t with
    | none => rfl
    | some i =>
      rw [ht] at hp
      dsimp only at hp ⊢
      split
      · rfl
      · rename_i r' o' hx
        rw [hx] at hp
        dsimp only at hp
        have : r' ≠ r := by
          intro e
          subst e
          rw [hr] at hp
          exact hp
        rw [Heap.put_ne _ _ this]
      · rfl

/-! ### Orders -/
/-- Operation number 'i' comes up. -/
def LOp (E : Env) (S : Specs E) (ops : Array Oper) (i : Nat) (K : AS → Prop) (a : AS) : Prop :=
  match ops[i]? with
  | none => K a
  | some o => okDst a.n o.dst = true ∧ if wantedA ops a o = some true then step1 E S o a K else if wantedA ops a o = some false then K (a.put o.dst (.tuple [])) else False
theorem LOp.mono {i : Nat} {a : AS} {K K' : AS → Prop} (hk : ∀ a, K a → K' a) (hs : LOp E S ops i K a) : LOp E S ops i K' a := by
  unfold LOp at hs ⊢
  split
  · rename_i e; rw [e] at hs; exact hk _ hs
  · rename_i o e
    rw [e] at hs
    refine ⟨hs.1, ?_⟩
    have hs := hs.2
    split
    · rename_i e; rw [if_pos e] at hs; exact step1_mono hk hs
    · rename_i e
      rw [if_neg e] at hs
      split
      · rename_i e; rw [if_pos e] at hs; exact hk _ hs
      · rename_i e; rw [if_neg e] at hs; exact hs
theorem AEq.lop {a b : AS} (e : AEq a b) {i : Nat} {K : AS → Prop} (hK : ∀ a b, AEq a b → K a → K b) (hs : LOp E S ops i K a) : LOp E S ops i K b := by
  unfold LOp at hs ⊢
  split
  · rename_i e1; rw [e1] at hs; exact hK _ _ e hs
  · rename_i o e1
    rw [e1] at hs
    refine ⟨by rw [← e.1]; exact hs.1, ?_⟩
    have hs := hs.2
    rw [← e.wanted]
    split
    · rename_i e2; rw [if_pos e2] at hs; exact e.step1 hK hs
    · rename_i e2
      rw [if_neg e2] at hs
      split
      · rename_i e2; rw [if_pos e2] at hs; exact hK _ _ (e.put _ _) hs
      · rename_i e2; rw [if_neg e2] at hs; exact hs
def LAny (E : Env) (S : Specs E) (md : Region.Mode) (ops : Array Oper) (Q : AS → Prop) : Nat → Array Bool → AS → Prop
  | 0, listed, a => Region.ready md ops listed = [] ∧ Q a
  | fuel + 1, listed, a => (Region.ready md ops listed = [] → Q a) ∧ ∀ i ∈ Region.ready md ops listed, LOp E S ops i (LAny E S md ops Q fuel (listed.setIfInBounds i true)) a
theorem AEq.lany {Q : AS → Prop} (hQ : ∀ a b, AEq a b → Q a → Q b) : ∀ (fuel : Nat) {listed : Array Bool} {a b : AS}, AEq a b → LAny E S md ops Q fuel listed a → LAny E S md ops Q fuel listed b
  | 0, _, _, _, e, h => ⟨h.1, hQ _ _ e h.2⟩
  | fuel + 1, _, _, _, e, h => ⟨fun h0 => hQ _ _ e (h.1 h0), fun i hi => e.lop (fun _ _ e h => AEq.lany hQ fuel e h) (h.2 i hi)⟩
theorem LAny.sound {Q : AS → Prop} : ∀ (fuel : Nat) {listed : Array Bool} {a : AS}, LAny E S md ops Q fuel listed a → ∀ {w I G act}, Good E w I G a.h → RS w I a act → ∀ {w0 I0 G0 h0}, Stp w0 I0 G0 h0 w I G a.h →
    wpAny E.P md ops (Post E w0 I0 G0 h0 (fun e a => e = .normal ∧ Q a)) fuel listed act w
  | 0, _, a, h, w, I, G, act, g, r, _, _, _, _, s => ⟨h.1, a, I, G, g, r, s, rfl, h.2⟩
  | fuel + 1, listed, a, h, w, I, G, act, g, r, w0, I0, G0, h0, s => by
    refine ⟨fun e => ⟨a, I, G, g, r, s, rfl, h.1 e⟩, fun i hi => ?_⟩
    have h1 := h.2 i hi
    unfold LOp at h1
    unfold wpOp
    split
    · rename_i e
      rw [e] at h1
      exact LAny.sound fuel h1 g r s
    · rename_i o e
      rw [e] at h1
      obtain ⟨hd, h1⟩ := h1
      cases hw : wantedA ops a o with
      | none => rw [hw] at h1; simp at h1
      | some b =>
        rw [hw] at h1
        cases b with
        | true =>
          rw [if_pos rfl] at h1
          rw [if_pos (r.wanted hw)]
          exact .inl (step1_wp hd h1 g r fun a' act' w' I' G' g' r' s' k => LAny.sound fuel k g' r' (s.trans s'))
        | false =>
          rw [if_neg (by simp), if_pos rfl] at h1
          rw [if_neg (by rw [r.wanted hw]; simp)]
          have hh : (a.put o.dst (.tuple [])).h = a.h := put_h a _ _
          exact LAny.sound fuel h1 (by rw [hh]; exact g) (r.put hd ⟨[], rfl, rfl⟩) (by rw [hh]; exact s)

/-- In this state the operation yields this. -/
def LY (E : Env) (S : Specs E) (ops : Array Oper) (o : Oper) (v : PV) (a : AS) : Prop :=
  okDst a.n o.dst = true ∧ ((wantedA ops a o = some true ∧ (px E S (a.eval E) a.h o.op).1 ∧ v = (px E S (a.eval E) a.h o.op).2) ∨ (wantedA ops a o = some false ∧ v = .tuple []))
theorem step1_quiet {o : Oper} {a : AS} {K : AS → Prop} (hq : quietOp o.op = true) : step1 E S o a K ↔ (px E S (a.eval E) a.h o.op).1 ∧ K (a.put o.dst (px E S (a.eval E) a.h o.op).2) := by
  unfold Lift.step1
  unfold quietOp at hq
  split
  · rename_i t hop; rw [hop] at hq; cases hq
  · rename_i t x hop; rw [hop] at hq; cases hq
  · rename_i h1 h2
    split at hq
    · rename_i t hop; cases hq
    · rename_i t x hop; cases hq
    · split
      · rename_i hx1; rw [hx1] at hq; cases hq
      · exact Iff.rfl
theorem LY.lop {i : Nat} {o : Oper} {v : PV} {a : AS} (hi : ops[i]? = some o) (hq : quietOp o.op = true) (hy : LY E S ops o v a) {K : AS → Prop} (k : K (a.put o.dst v)) : LOp E S ops i K a := by
  unfold LOp
  simp only [hi]
  refine ⟨hy.1, ?_⟩
  rcases hy.2 with ⟨hw, hp, rfl⟩ | ⟨hw, rfl⟩
  · rw [hw, if_pos rfl]; exact (step1_quiet hq).2 ⟨hp, k⟩
  · rw [hw, if_neg (by simp), if_pos rfl]; exact k
theorem LOp.ly {i : Nat} {o : Oper} {a : AS} {K : AS → Prop} (hi : ops[i]? = some o) (hq : quietOp o.op = true) (hs : LOp E S ops i K a) : ∃ v, LY E S ops o v a ∧ K (a.put o.dst v) := by
  unfold LOp at hs
  simp only [hi] at hs
  obtain ⟨hd, hs⟩ := hs
  cases hw : wantedA ops a o with
  | none => rw [hw] at hs; simp at hs
  | some b =>
    rw [hw] at hs
    cases b with
    | true =>
      rw [if_pos rfl] at hs
      obtain ⟨h1, h2⟩ := (step1_quiet hq).1 hs
      exact ⟨_, ⟨hd, .inl ⟨hw, h1, rfl⟩⟩, h2⟩
    | false =>
      rw [if_neg (by simp), if_pos rfl] at hs
      exact ⟨.tuple [], ⟨hd, .inr ⟨hw, rfl⟩⟩, hs⟩
/-- The operation 'oj', past the quiet 'oi'. -/
theorem LOp.past {j : Nat} {oi oj : Oper} {v : PV} {a : AS} {K : AS → Prop} (hK : ∀ a b, AEq a b → K a → K b) (hj : ops[j]? = some oj) (hap : oi.apart ops oj = true) (hls : (isLoad oi.op && hxOp oj.op) = false)
    (hy : LY E S ops oi v a) (hs : LOp E S ops j K (a.put oi.dst v)) : LOp E S ops j (fun a' => LY E S ops oi v a' ∧ K (a'.put oi.dst v)) a := by
  obtain ⟨h1, h2, h3⟩ := Oper.apart_spec hap
  have hn : ∀ (d : Option Tmp) (v : PV), (a.put d v).n = a.n := fun d v => by cases d <;> rfl
  have keep : ∀ (u : PV) (h' : Heap), ((px E S (a.eval E) a.h oi.op).1 → px E S (a.eval E) h' oi.op = px E S (a.eval E) a.h oi.op) → LY E S ops oi v { a.put oj.dst u with h := h' } := fun u h' hh => by
    refine ⟨(congrArg (fun n => okDst n oi.dst) (hn oj.dst u)).trans hy.1, ?_⟩
    have hw : wantedA ops { a.put oj.dst u with h := h' } oi = wantedA ops a oi := (wanted_putA (v := u) h3 : wantedA ops (a.put oj.dst u) oi = wantedA ops a oi)
    have hp : px E S (AS.eval E { a.put oj.dst u with h := h' }) h' oi.op = px E S (a.eval E) h' oi.op := by
      have : AS.eval E { a.put oj.dst u with h := h' } = (a.put oj.dst u).eval E := by funext x; cases x <;> rfl
      rw [this]
      exact px_put h3
    rw [hw]
    show (_ ∧ (px E S (AS.eval E { a.put oj.dst u with h := h' }) h' oi.op).1 ∧ v = (px E S (AS.eval E { a.put oj.dst u with h := h' }) h' oi.op).2) ∨ _
    rw [hp]
    rcases hy.2 with ⟨hw, hp, rfl⟩ | ⟨hw, rfl⟩
    · rw [hh hp]; exact .inl ⟨hw, hp, rfl⟩
    · exact .inr ⟨hw, rfl⟩
  have same : ∀ (u : PV), LY E S ops oi v (a.put oj.dst u) := fun u => by
    have := keep u a.h (fun _ => rfl)
    have e : ({ a.put oj.dst u with h := a.h } : AS) = a.put oj.dst u := by cases oj.dst <;> rfl
    rw [e] at this
    exact this
  have swap : ∀ (u : PV) (h' : Heap), K { (a.put oi.dst v).put oj.dst u with h := h' } → K ({ a.put oj.dst u with h := h' }.put oi.dst v) := fun u h' k => by
    have e : ({ a.put oj.dst u with h := h' } : AS).put oi.dst v = { (a.put oj.dst u).put oi.dst v with h := h' } := by cases oi.dst <;> rfl
    rw [e]
    exact hK _ _ ((put_comm a v u h2).heap h') k
  have swap' : ∀ (u : PV), K ((a.put oi.dst v).put oj.dst u) → K ((a.put oj.dst u).put oi.dst v) := fun u k => hK _ _ (put_comm a v u h2) k
  have heval : ∀ x ∈ oj.op.operands, (a.put oi.dst v).eval E x = a.eval E x := fun x hx => eval_put fun t e e2 => h1 t e (by subst e2; exact List.mem_append_left _ (List.mem_filterMap.2 ⟨.tmp t, by simpa using hx, rfl⟩))
  have hah : (a.put oi.dst v).h = a.h := put_h a _ _
  unfold LOp at hs ⊢
  simp only [hj] at hs ⊢
  rw [hn oi.dst v, wanted_putA (v := v) h1] at hs
  refine ⟨hs.1, ?_⟩
  have hs := hs.2
  cases hw : wantedA ops a oj with
  | none => rw [hw] at hs; simp at hs
  | some b =>
    rw [hw] at hs
    cases b with
    | false =>
      rw [if_neg (by simp), if_pos rfl] at hs ⊢
      exact ⟨same _, swap' _ hs⟩
    | true =>
      rw [if_pos rfl] at hs ⊢
      cases hq : quietOp oj.op with
      | true =>
        rw [step1_quiet hq] at hs ⊢
        rw [hah, px_put h1] at hs
        exact ⟨hs.1, same _, swap' _ hs.2⟩
      | false =>
        unfold Lift.step1 at hs ⊢
        split at hs
        · rename_i t hop
          rw [hah] at hs
          exact ⟨hs.1, fun r hr => ⟨keep _ _ fun hp => px_fresh hr hp, swap _ _ (hs.2 r hr)⟩⟩
        · rename_i t x hop
          rw [heval x (by rw [hop]; simp [Op.operands]), hah] at hs
          exact ⟨hs.1, fun r hr => ⟨keep _ _ fun hp => px_fresh hr hp, swap _ _ (hs.2 r hr)⟩⟩
        · rename_i n1 n2
          have hxo : hxOp oj.op = true := by
            unfold quietOp at hq
            split at hq
            · rename_i t hop; exact absurd hop (n1 t)
            · rename_i t x hop; exact absurd hop (n2 t x)
            · simpa using hq
          rw [if_pos hxo] at hs ⊢
          have hil : isLoad oi.op = false := by
            rw [hxo] at hls
            simpa using hls
          rw [hah, hx_congr heval] at hs
          exact ⟨hs.1, keep _ _ (fun _ => px_heap hil _ _), swap _ _ hs.2⟩
/-- Does an operation wait for another one? -/
def waits (md : Region.Mode) (ops : Array Oper) (i : Nat) : Nat → Nat → Bool
  | 0, _ => false
  | n + 1, j => match ops[j]? with
    | none => false
    | some o => o.after.any fun e => Region.binds md e && (e.on == i || waits md ops i n e.on)
def Closed (md : Region.Mode) (ops : Array Oper) (listed : Array Bool) : Prop :=
  ∀ j o, ops[j]? = some o → listed.getD j false = true → ∀ e ∈ o.after, Region.binds md e = true → listed.getD e.on false = true
theorem waits_no {i : Nat} {listed : Array Bool} (hcl : Closed md ops listed) (hi : listed.getD i false = false) : ∀ (n j : Nat) (o : Oper), ops[j]? = some o → (∀ e ∈ o.after, Region.binds md e = true → listed.getD e.on false = true) → waits md ops i n j = false
  | 0, _, _, _, _ => rfl
  | n + 1, j, o, ho, hall => by
    unfold waits
    rw [ho]
    dsimp only
    rw [← Bool.not_eq_true, Array.any_eq_true']
    rintro ⟨e, he, hb⟩
    simp only [Bool.and_eq_true, Bool.or_eq_true, beq_iff_eq] at hb
    have h1 := hall e he hb.1
    rcases hb.2 with h2 | h2
    · rw [h2, hi] at h1; cases h1
    · cases ho2 : ops[e.on]? with
      | none =>
        cases n with
        | zero => cases h2
        | succ n => simp [waits, ho2] at h2
      | some o2 =>
        rw [waits_no hcl hi n e.on o2 ho2 (hcl _ _ ho2 h1)] at h2
        cases h2
theorem Closed.step {listed : Array Bool} (hcl : Closed md ops listed) {j : Nat} (hj : j ∈ Region.ready md ops listed) : Closed md ops (listed.setIfInBounds j true) := by
  obtain ⟨_, oj, hoj, hall⟩ := mem_ready.1 hj
  intro x o ho hx e he hb
  by_cases hxj : j = x
  · subst hxj
    rw [hoj] at ho
    injection ho with ho
    subst ho
    exact getD_set_true (hall e he hb)
  · rw [getD_set_ne false hxj] at hx
    exact getD_set_true (hcl x o ho hx e he hb)
theorem Closed.start (md : Region.Mode) (ops : Array Oper) (n : Nat) : Closed md ops (Array.replicate n false) := by
  intro j o _ h
  simp [Array.getD_eq_getD_getElem?, Array.getElem?_replicate] at h
  split at h <;> simp at h
/-- A quiet operation that may come up may come first. -/
theorem LAny.first {Q : AS → Prop} (hQ : ∀ a b, AEq a b → Q a → Q b) {i : Nat} {oi : Oper} {v : PV} (hi : ops[i]? = some oi) (hq : quietOp oi.op = true) :
    ∀ (fuel : Nat) (listed : Array Bool) (a : AS),
      (∀ j oj, ops[j]? = some oj → j ≠ i → listed.getD j true = false → waits md ops i ops.size j = false → oi.apart ops oj = true ∧ (isLoad oi.op && hxOp oj.op) = false) →
      Closed md ops listed → i ∈ Region.ready md ops listed → LY E S ops oi v a →
      LAny E S md ops Q fuel (listed.setIfInBounds i true) (a.put oi.dst v) → LAny E S md ops Q (fuel + 1) listed a := by
  intro fuel
  induction fuel with
  | zero =>
    intro listed a _ _ hr hy H
    refine ⟨fun h => (by rw [h] at hr; cases hr), fun j hj => ?_⟩
    by_cases hji : j = i
    · subst hji; exact hy.lop hi hq H
    · have := ready_mono hj hji
      rw [H.1] at this
      cases this
  | succ fuel ih =>
    intro listed a hfree hcl hr hy H
    refine ⟨fun h => (by rw [h] at hr; cases hr), fun j hj => ?_⟩
    by_cases hji : j = i
    · subst hji; exact hy.lop hi hq H
    · have h1 := H.2 j (ready_mono hj hji)
      obtain ⟨hjun, oj, hoj, hall⟩ := mem_ready.1 hj
      have hi0 : listed.getD i false = false := by
        have h0 := (mem_ready.1 hr).1
        rcases Nat.lt_or_ge i listed.size with h' | h'
        · simp [h'] at h0 ⊢; exact h0
        · simp [Array.getElem?_eq_none h'] at h0
      have hnot : waits md ops i ops.size j = false := waits_no hcl hi0 _ _ _ hoj hall
      obtain ⟨hap, hls⟩ := hfree j oj hoj hji hjun hnot
      have h2 := LOp.past (fun _ _ e k => AEq.lany hQ fuel e k) hoj hap hls hy h1
      have hfree' : ∀ k ok, ops[k]? = some ok → k ≠ i → (listed.setIfInBounds j true).getD k true = false →
          waits md ops i ops.size k = false → oi.apart ops ok = true ∧ (isLoad oi.op && hxOp ok.op) = false := fun k ok hk hki hun hno => by
        refine hfree k ok hk hki ?_ hno
        by_cases hjk : j = k
        · subst hjk; exact hjun
        · rw [getD_set_ne true hjk] at hun; exact hun
      refine LOp.mono (fun a' h3 => ih (listed.setIfInBounds j true) a' hfree' (hcl.step (ready_mono hj hji |> fun _ => hj)) (ready_mono hr (Ne.symm hji)) h3.1 ?_) h2
      rw [Array.setIfInBounds_comm _ _ hji]
      exact h3.2

def freeL (md : Region.Mode) (ops : Array Oper) (listed : Array Bool) (i : Nat) : Bool :=
  match ops[i]? with
  | none => false
  | some oi => quietOp oi.op && (List.range ops.size).all fun j => j == i || listed.getD j true || match ops[j]? with
      | some oj => waits md ops i ops.size j || (oi.apart ops oj && !(isLoad oi.op && hxOp oj.op))
      | none => true
theorem freeL_spec {i : Nat} {oi : Oper} {listed : Array Bool} (hi : ops[i]? = some oi) (h : freeL md ops listed i = true) : quietOp oi.op = true ∧ ∀ (j : Nat) (oj : Oper), ops[j]? = some oj → j ≠ i → listed.getD j true = false → waits md ops i ops.size j = false →
    oi.apart ops oj = true ∧ (isLoad oi.op && hxOp oj.op) = false := by
  simp only [freeL, hi, Bool.and_eq_true, List.all_eq_true, List.mem_range] at h
  refine ⟨h.1, fun j oj hj hne hun hno => ?_⟩
  have h1 := h.2 j (Array.getElem?_eq_some_iff.1 hj).1
  simp only [hj, Bool.or_eq_true, beq_iff_eq, hne, false_or, hun, Bool.false_eq_true] at h1
  rcases h1 with h1 | h1
  · rw [hno] at h1; cases h1
  · simp only [Bool.and_eq_true, Bool.not_eq_true'] at h1
    exact h1
/-- May a region be walked in this order? -/
def ordOK (md : Region.Mode) (ops : Array Oper) : List Nat → Array Bool → Bool
  | [], listed => (Region.ready md ops listed).isEmpty
  | i :: l, listed => (Region.ready md ops listed).contains i && (ops[i]?).isSome && (freeL md ops listed i || Region.ready md ops listed == [i]) && ordOK md ops l (listed.setIfInBounds i true)
def wpO (E : Env) (S : Specs E) (ops : Array Oper) : List Nat → (AS → Prop) → AS → Prop
  | [], Q, a => Q a
  | i :: l, Q, a => LOp E S ops i (wpO E S ops l Q) a
theorem wpO_any {Q : AS → Prop} (hQ : ∀ a b, AEq a b → Q a → Q b) : ∀ (l : List Nat) (listed : Array Bool) (a : AS), Closed md ops listed → ordOK md ops l listed = true → wpO E S ops l Q a → LAny E S md ops Q l.length listed a
  | [], listed, a, _, hB, h => ⟨by simpa [ordOK] using hB, h⟩
  | i :: l, listed, a, hcl, hB, h => by
    simp only [ordOK, Bool.and_eq_true] at hB
    obtain ⟨⟨⟨hr, hi⟩, hf⟩, hB'⟩ := hB
    obtain ⟨oi, hi⟩ := Option.isSome_iff_exists.1 hi
    have hr : i ∈ Region.ready md ops listed := by simpa using hr
    simp only [wpO] at h
    rcases Bool.or_eq_true _ _ ▸ hf with hf | hf
    · obtain ⟨hq, hfree⟩ := freeL_spec hi hf
      obtain ⟨v, hy, hk⟩ := h.ly hi hq
      exact LAny.first hQ hi hq l.length listed a hfree hcl hr hy (wpO_any hQ l _ _ (hcl.step hr) hB' hk)
    · have hf : Region.ready md ops listed = [i] := by simpa using hf
      refine ⟨fun e => (by rw [hf] at e; cases e), fun j hj => ?_⟩
      rw [hf] at hj
      have : j = i := by simpa using hj
      subst this
      exact h.mono fun a k => wpO_any hQ l _ _ (hcl.step hr) hB' k
def wpOL (E : Env) (S : Specs E) (ops : Array Oper) : List (List Nat) → (AS → Prop) → AS → Prop
  | [], Q, a => Q a
  | l :: ls, Q, a => wpO E S ops l (wpOL E S ops ls Q) a
theorem wpO.mono {Q Q' : AS → Prop} (hq : ∀ a, Q a → Q' a) : ∀ (l : List Nat) {a : AS}, wpO E S ops l Q a → wpO E S ops l Q' a
  | [], _, h => hq _ h
  | _ :: l, _, h => LOp.mono (fun _ k => wpO.mono hq l k) h
theorem wpO_append {Q : AS → Prop} : ∀ (l l' : List Nat) {a : AS}, wpO E S ops l (wpO E S ops l' Q) a → wpO E S ops (l ++ l') Q a
  | [], _, _, h => h
  | _ :: l, l', _, h => LOp.mono (fun _ k => wpO_append l l' k) h
theorem wpOL_flat {Q : AS → Prop} : ∀ (ls : List (List Nat)) {a : AS}, wpOL E S ops ls Q a → wpO E S ops ls.flatten Q a
  | [], _, h => h
  | l :: ls, _, h => wpO_append l ls.flatten (wpO.mono (fun _ k => wpOL_flat ls k) l h)
theorem wpOp_mono_post {P : Program} {K K' : Act → World → Prop} {Q Q' : Exit → Act → World → Prop} (hk : ∀ a w, K a w → K' a w) (hq : ∀ e a w, Q e a w → Q' e a w) {i : Nat} {a : Act} {w : World} (h : wpOp P ops Q i K a w) : wpOp P ops Q' i K' a w := by
  unfold wpOp at h ⊢
  split
  · rename_i e; rw [e] at h; exact hk _ _ h
  · rename_i o e
    rw [e] at h
    dsimp only at h
    split
    · rename_i hw
      rw [if_pos hw] at h
      rcases h with h | ⟨h1, h2⟩
      · exact .inl (upon_mono hk hq h)
      · exact .inr ⟨h1, LetsOut.mono hq h2⟩
    · rename_i hw; rw [if_neg hw] at h; exact hk _ _ h
theorem wpAny_mono_post {P : Program} {Q Q' : Exit → Act → World → Prop} (hq : ∀ e a w, Q e a w → Q' e a w) : ∀ (fuel : Nat) (listed : Array Bool) (a : Act) (w : World), wpAny P md ops Q fuel listed a w → wpAny P md ops Q' fuel listed a w
  | 0, _, _, _, h => ⟨h.1, hq _ _ _ h.2⟩
  | fuel + 1, _, _, _, h => ⟨fun e => hq _ _ _ (h.1 e), fun i hi => wpOp_mono_post (fun a w k => wpAny_mono_post hq fuel _ a w k) hq (h.2 i hi)⟩
theorem SW.regionAny (S : Specs E) {id : Nat} {l : List Oper} {Q : Exit → AS → Prop} {a : AS} (ls : List (List Nat)) (hm : E.P.follows .mixedOrders = true) (hlen : ls.flatten.length = l.length) (hord : ordOK .any l.toArray ls.flatten (Array.replicate l.length false) = true)
    (h : wpOL E S l.toArray ls (Q .normal) a) : SW E (.region id l.toArray true) Q a := by
  intro w I G act g r
  refine wp_region_any hm ?_
  have h1 : wpO E S l.toArray ls.flatten (fun b => ∃ c, AEq c b ∧ Q .normal c) a := wpO.mono (fun c k => ⟨c, .refl c, k⟩) _ (wpOL_flat ls h)
  have h2 := wpO_any (md := .any) (fun a b e ⟨c, hc, k⟩ => ⟨c, hc.trans e, k⟩) _ _ _ (Closed.start _ _ _) hord h1
  have hk : Keeps w I { w with drawn := w.drawn + 1 } I := fun k hk => ⟨hk, rfl⟩
  have g' : Good E { w with drawn := w.drawn + 1 } I G a.h := ⟨fun r o h => by
    obtain ⟨k1, k2, k3, k4⟩ := g.own r o h
    refine ⟨k1, k2, k3, ?_⟩
    cases o with
    | cells t size cs => obtain ⟨us, rest, e1, e2, e3⟩ := k4; exact ⟨us, rest, e1, RL.keeps hk _ _ e2, e3⟩
    | bld => exact k4
    | iter => exact k4, g.hid, g.imm, fun g0 cs e => R1.keeps hk _ _ (g.glob g0 cs e)⟩
  have r' : RS { w with drawn := w.drawn + 1 } I a act := r.keeps hk
  have h3 := LAny.sound _ h2 g' r' (w0 := w) (I0 := I) (G0 := G) (h0 := a.h) ⟨rfl, rfl, rfl, Nat.le_refl _, fun _ _ a b => ⟨rfl, a, b⟩, fun _ h => h, fun _ _ _ _ h => h⟩
  have hsz : l.toArray.size = ls.flatten.length := by rw [hlen]; simp
  rw [hsz, hlen]
  rw [hlen] at h3
  refine wpAny_mono_post ?_ _ _ _ _ h3
  rintro e act' w' ⟨b, I', G', gb, rb, sb, rfl, c, hc, k⟩
  exact ⟨c, I', G', by rw [hc.2.1]; exact gb, rb.same hc.1 hc.2.2, by rw [hc.2.1]; exact sb, k⟩
end
end Go.Proofs.Ythlibdhjcjangaa.Lift
