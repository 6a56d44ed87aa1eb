/- Regions that draw their order: one order serves all. -/
import Derived.Test.YtpgnfbdkhakbdaaGreatDoorLiftL
import Derived.Laws.RangeString
import Derived.Lib.OthersKept
import Derived.Laws.BitsLemmas
import Derived.OpenShut
set_option linter.unusedSimpArgs false
set_option linter.unusedVariables false
namespace Go.Proofs.YtpgnfbdkhakbdaaGreatDoor.Lift
open Go Go.RowKit

section
variable {E : Env} {S : Specs E} {w w1 w' : World} {I I1 I' : Nat → Prop} {G G1 G' : Nat → Option Nat} {h : Heap} {ops : Array Oper} {md : Region.Mode}

theorem info_at {P : Program} {t : TypeId} {i : TypeInfo} (h : P.types[t]? = some i) : P.info? t = some i := by
  have hlt : t < P.types.size := (Array.getElem?_eq_some_iff.1 h).1
  unfold Tables.info?
  rw [if_pos hlt, h]
theorem Ret_fin {v p : PV} {h h2 : Heap} : (∃ h', HTo E h2 h' ∧ Ret v h (.ret p) h') ↔ p = v ∧ HTo E h2 h := by
  constructor
  · rintro ⟨h', h1, h3, rfl⟩
    injection h3 with h3
    exact ⟨h3, h1⟩
  · rintro ⟨rfl, h1⟩
    exact ⟨h, h1, rfl, rfl⟩
theorem HTo_self (h : Heap) : HTo E h h ↔ True := ⟨fun _ => trivial, fun _ => .refl E h⟩
theorem HTo.put {h h' : Heap} (t : HTo E h' h) {r : Nat} (hr : h' r = none) (o : AObj) : HTo E (h'.put r o) h := ((HSub.refl h').put hr o).to.trans t
def AEq (a b : AS) : Prop := a.n = b.n ∧ a.h = b.h ∧ ∀ t, a.get t = b.get t
theorem AEq.refl (a : AS) : AEq a a := ⟨rfl, rfl, fun _ => rfl⟩
theorem AEq.symm {a b : AS} (e : AEq a b) : AEq b a := ⟨e.1.symm, e.2.1.symm, fun t => (e.2.2 t).symm⟩
theorem AEq.trans {a b c : AS} (e : AEq a b) (f : AEq b c) : AEq a c := ⟨e.1.trans f.1, e.2.1.trans f.2.1, fun t => (e.2.2 t).trans (f.2.2 t)⟩
theorem AEq.eval {a b : AS} (e : AEq a b) : a.eval E = b.eval E := by
  funext x
  cases x <;> simp only [AS.eval]
  exact e.2.2 _
theorem AEq.put {a b : AS} (e : AEq a b) (d : Option Tmp) (v : PV) : AEq (a.put d v) (b.put d v) := by
  cases d with
  | none => exact e
  | some d => exact ⟨e.1, e.2.1, fun t => by rw [AS.get_put, AS.get_put, e.2.2]⟩
theorem AEq.heap {a b : AS} (e : AEq a b) (h : Heap) : AEq { a with h := h } { b with h := h } := ⟨e.1, rfl, e.2.2⟩
theorem put_comm (a : AS) {x y : Option Tmp} (v u : PV) (hne : ∀ d, x = some d → y ≠ some d) : AEq ((a.put x v).put y u) ((a.put y u).put x v) := by
  cases x with
  | none => exact .refl _
  | some d =>
    cases y with
    | none => exact .refl _
    | some e =>
      have hne : d ≠ e := fun he => hne d rfl (he ▸ rfl)
      refine ⟨rfl, rfl, fun t => ?_⟩
      simp only [AS.get_put]
      by_cases h1 : t = d <;> by_cases h2 : t = e <;> simp [h1, h2]
      · exact absurd (h1.symm.trans h2) hne
      · intro h3; exact absurd h3 hne
      · intro h3; exact absurd h3.symm hne
theorem AEq.wanted {a b : AS} (e : AEq a b) (o : Oper) : wantedA ops a o = wantedA ops b o := by
  unfold wantedA
  simp only [e.2.2]
theorem AEq.step1 {a b : AS} (e : AEq a b) {o : Oper} {K : AS → Prop} (hK : ∀ a b, AEq a b → K a → K b) (hs : step1 E S o a K) : step1 E S o b K := by
  have hev := e.eval (E := E)
  unfold Lift.step1 at hs ⊢
  rw [← hev, ← e.2.1]
  split
  · rename_i t hop
    simp only [hop] at hs
    exact ⟨hs.1, fun r hr => hK _ _ ((e.put _ _).heap _) (hs.2 r hr)⟩
  · rename_i t x hop
    simp only [hop] at hs
    exact ⟨hs.1, fun r hr => hK _ _ ((e.put _ _).heap _) (hs.2 r hr)⟩
  · rename_i h1 h2
    split at hs
    · rename_i t hop; exact absurd hop (h1 t)
    · rename_i t x hop; exact absurd hop (h2 t x)
    · split
      · rename_i ho
        rw [if_pos ho] at hs
        exact ⟨hs.1, fun u h' ow => hK _ _ ((e.put _ _).heap _) (hs.2 u h' ow)⟩
      · rename_i ho
        rw [if_neg ho] at hs
        split
        · rename_i hx1
          rw [if_pos hx1] at hs
          exact ⟨hs.1, hK _ _ ((e.put _ _).heap _) hs.2⟩
        · rename_i hx1
          rw [if_neg hx1] at hs
          exact ⟨hs.1, hK _ _ (e.put _ _) hs.2⟩

theorem upon_mono_but {P : Program} {o : Oper} {a : Act} {K K' : Act → World → Prop} {Q Q' : Exit → Act → World → Prop} (hk : ∀ a w, K a w → K' a w) (hq : ∀ e a w, e ≠ .normal → Q e a w → Q' e a w) {r : Result Next}
    (h : o.upon P a K Q r) : o.upon P a K' Q' r := by
  have hl : LetsOut Q → LetsOut Q' := fun ⟨a, w, h⟩ => ⟨a, w, hq _ _ _ (fun e => by cases e) h⟩
  cases r with
  | ok n w =>
    cases n with
    | value v => exact hk _ _ h
    | skip => exact hk _ _ h
    | defer d => exact hk _ _ h
    | enter f args =>
      rw [Oper.upon_enter] at h ⊢
      refine h.mono ?_
      intro e w' hh
      cases e with
      | returned v => exact hk _ _ hh
      | panicked c => exact hq _ _ _ (fun e => by cases e) hh
      | outgrown => exact hl hh
    | row row args => exact Rows.mono h fun _ _ hh => hk _ _ hh
    | _ => exact h
  | halt x w =>
    cases x with
    | panic v => exact hq _ _ _ (fun e => by cases e) h
    | _ => exact h
theorem step1_wp {o : Oper} {a : AS} {K : AS → Prop} (hd : okDst a.n o.dst = true) (hs : step1 E S o a K) {act : Act} (g : Good E w I G a.h) (r : RS E w I a act) {K' : Act → World → Prop} {Q' : Exit → Act → World → Prop}
    (k : ∀ a' act' w' I' G', Good E w' I' G' a'.h → RS E w' I' a' act' → Stp E.mono w I G a.h w' I' G' a'.h → K a' → K' act' w') : o.wp E.P act w K' Q' := by
  obtain ⟨dst, op, ty, pos, after, guard⟩ := o
  have h1 : SWO E #[] [{ dst := dst, op := op, type := ty, pos := pos, after := after, guard := none }] (fun e a => e = .normal ∧ K a) a :=
    SWO.step1 (ops := #[]) (o := { dst := dst, op := op, type := ty, pos := pos, after := after, guard := none }) (rest := []) rfl hd (step1_mono (K' := SWO E #[] [] (fun e a => e = .normal ∧ K a)) (fun a ka => SWO.nil ⟨rfl, ka⟩) (by
      unfold Lift.step1 at hs ⊢
      exact hs))
  have h2 := h1 w I G act g r
  unfold wpList at h2
  rw [if_pos (by rfl)] at h2
  rcases h2 with h2 | ⟨_, h3⟩
  · have e : ∀ K Q, Oper.wp E.P { dst := dst, op := op, type := ty, pos := pos, after := after, guard := guard } act w K Q ↔ Oper.wp E.P { dst := dst, op := op, type := ty, pos := pos, after := after, guard := none } act w K Q := by
      intro K Q
      unfold Oper.wp
      rfl
    rw [e]
    unfold Oper.wp at h2 ⊢
    refine upon_mono_but (fun act' w' hh => ?_) (fun ex act' w' hne hh => ?_) h2
    · obtain ⟨a', I', G', g', r', s', _, ka⟩ := hh
      exact k a' act' w' I' G' g' r' s' ka
    · obtain ⟨_, _, _, _, _, _, hn, _⟩ := hh
      exact absurd hn hne
  · obtain ⟨_, _, _, _, _, _, _, _, hh, _⟩ := h3
    cases hh

theorem pB_congr {ρ ρ' : Operand → PV} {x : Option Operand} {d : Nat} (h : ∀ y, x = some y → ρ y = ρ' y) : pB ρ x d = pB ρ' x d := by
  cases x with
  | none => rfl
  | some y => simp only [pB, h y rfl]
theorem px_congr {ρ ρ' : Operand → PV} {op : Op} (h0 : ∀ x ∈ op.operands, ρ x = ρ' x) : px E S ρ h op = px E S ρ' h op := by
  cases op <;> simp only [Op.operands] at h0 <;> simp only [px]
  case build t ps =>
    congr 1
    exact List.map_congr_left fun x hx => by rw [h0 x.2 (by simp only [List.mem_toArray, List.mem_map]; exact ⟨x, hx, rfl⟩)]
  case buildSlice t n ps =>
    congr 1
    exact List.map_congr_left fun x hx => by rw [h0 x.2 (by simp only [List.mem_toArray, List.mem_map]; exact ⟨x, hx, rfl⟩)]
  case makeFunc fn first caps =>
    rw [List.map_congr_left (l := caps.toList) (f := ρ) (g := ρ') fun x hx => h0 x (by simp at hx; simp [hx])]
  case slice t x lo hi m =>
    have hx : ρ x = ρ' x := h0 x (by simp)
    have hl : ∀ d, pB ρ lo d = pB ρ' lo d := fun d => pB_congr fun y e => h0 y (by simp [e])
    have hh : ∀ d, pB ρ hi d = pB ρ' hi d := fun d => pB_congr fun y e => h0 y (by simp [e])
    cases m <;> simp only [pslice, hx, hl, hh]
  case call c =>
    have hargs : ∀ x ∈ c.args.toList, ρ x = ρ' x := fun x hx => h0 x (by simp at hx; simp [Call.operands, hx])
    unfold pcall
    split
    · split
      · rename_i x t hx ht
        have : ρ x = ρ' x := hargs x (by rw [hx]; simp)
        rw [this]
      · rfl
    · split
      · rename_i x hx
        have : ρ x = ρ' x := hargs x (by rw [hx]; simp)
        rw [this]
      · rfl
    · split
      · rename_i x y hxy
        rw [hargs x (by rw [hxy]; simp), hargs y (by rw [hxy]; simp)]
      · rfl
    · split
      · rename_i x y hxy
        rw [hargs x (by rw [hxy]; simp), hargs y (by rw [hxy]; simp)]
      · rfl
    · split
      · rename_i x hx
        have : ρ x = ρ' x := hargs x (by rw [hx]; simp)
        rw [this]
      · rfl
    · rw [List.map_congr_left hargs]
      have : (c.args.toList.all fun x => okArg (ρ x)) = (c.args.toList.all fun x => okArg (ρ' x)) := by
        rw [Bool.eq_iff_iff, List.all_eq_true, List.all_eq_true]
        constructor <;> intro hh x hx
        · rw [← hargs x hx]; exact hh x hx
        · rw [hargs x hx]; exact hh x hx
      rw [this]
    · rfl
  all_goals (first | rfl | (simp at h0; simp [h0]; done))
theorem eval_put {a : AS} {d : Option Tmp} {v : PV} {x : Operand} (hx : ∀ t, d = some t → x ≠ .tmp t) : (a.put d v).eval E x = a.eval E x := by
  cases d with
  | none => rfl
  | some t =>
    cases x with
    | tmp u =>
      simp only [AS.eval, AS.get_put]
      rw [if_neg (fun e => hx t rfl (by rw [e]))]
    | _ => rfl
theorem px_put {a : AS} {o : Oper} {d : Option Tmp} {v : PV} (hd : ∀ t, d = some t → t ∉ o.looksAt ops) : px E S ((a.put d v).eval E) h o.op = px E S (a.eval E) h o.op :=
  px_congr fun x hx => eval_put fun t e e2 => hd t e (by subst e2; exact List.mem_append_left _ (List.mem_filterMap.2 ⟨.tmp t, by simpa using hx, rfl⟩))
theorem wanted_putA {a : AS} {o : Oper} {d : Option Tmp} {v : PV} (hd : ∀ t, d = some t → t ∉ o.looksAt ops) : wantedA ops (a.put d v) o = wantedA ops a o := by
  cases d with
  | none => rfl
  | some d =>
    unfold wantedA
    cases hg : o.guard with
    | none => rfl
    | some gw =>
      obtain ⟨g, want⟩ := gw
      dsimp only
      cases ht : (ops[g]?).bind (·.dst) with
      | none => rfl
      | some t =>
        dsimp only
        have hne : t ≠ d := fun e => hd d rfl (by subst e; simp [Oper.looksAt, hg, ht])
        rw [AS.get_put, if_neg hne]
def isLoad : Op → Bool
  | .load .. => true
  | .convert .. => true
  | .lookup .. => true
  | _ => false
def quietOp (S : Specs E) : Op → Bool
  | .alloc _ | .box .. => false
  | op => !(isOwnCall S op || hxOp S op)
theorem hx_congr {ρ ρ' : Operand → PV} {op : Op} (h0 : ∀ x ∈ op.operands, ρ x = ρ' x) : hx E S ρ h op = hx E S ρ' h op := by
  cases op <;> try rfl
  case store t p x =>
    simp only [Op.operands] at h0
    simp only [hx, h0 p (by simp), h0 x (by simp)]
  case call c =>
    simp only [Op.operands] at h0
    have hargs : ∀ x ∈ c.args.toList, ρ x = ρ' x := fun x hx => h0 x (by simp at hx; simp [Call.operands, hx])
    simp only [hx]
    split
    · rw [List.map_congr_left hargs]
      have : (c.args.toList.all fun x => okArg (ρ x)) = (c.args.toList.all fun x => okArg (ρ' x)) := by
        rw [Bool.eq_iff_iff, List.all_eq_true, List.all_eq_true]
        constructor <;> intro hh x hx
        · rw [← hargs x hx]; exact hh x hx
        · rw [hargs x hx]; exact hh x hx
      rw [this]
    · split
      · rename_i x y hxy
        rw [hargs x (by rw [hxy]; simp), hargs y (by rw [hxy]; simp)]
      · rfl
    · rfl
theorem px_heap {ρ : Operand → PV} {op : Op} (hl : isLoad op = false) (h h' : Heap) : px E S ρ h op = px E S ρ h' op := by
  cases op <;> first | rfl | cases hl
theorem px_fresh {ρ : Operand → PV} {op : Op} {r : Nat} {o : AObj} (hr : h r = none) (hp : (px E S ρ h op).1) : px E S ρ (h.put r o) op = px E S ρ h op := by
  cases hl : isLoad op with
  | false => exact px_heap hl _ _
  | true =>
    cases op <;> try (exact Bool.noConfusion hl)
    case convert s t x =>
      simp only [px] at hp ⊢
      cases hs : E.ty s with
      | none => rfl
      | some i =>
        cases ht : E.ty t with
        | none => rfl
        | some j =>
          rw [hs, ht] at hp
          dsimp only at hp ⊢
          unfold pconvH at hp ⊢
          split
          · rename_i r' o' hx
            rw [hx] at hp
            dsimp only at hp
            have : r' ≠ r := by
              intro e
              subst e
              rw [hr] at hp
              exact hp
            rw [Heap.put_ne _ _ this]
          · rfl
    case lookup t m k c =>
      simp only [px] at hp ⊢
      unfold plookup at hp ⊢
      cases ht : E.ty t with
      | none => rfl
      | some i =>
      rw [ht] at hp
      dsimp only at hp ⊢
      cases hk : i.k <;> rw [hk] at hp <;> try rfl
      rename_i kt et
      dsimp only at hp ⊢
      cases he : E.ty et with
      | none => rfl
      | some ie =>
      rw [he] at hp
      dsimp only at hp ⊢
      split
      · rename_i r' hx
        rw [hx] at hp
        dsimp only at hp
        have : r' ≠ r := by
          intro e
          subst e
          rw [hr] at hp
          exact hp
        rw [Heap.put_ne _ _ this]
      · rfl
    rename_i t x
    simp only [px, pload] at hp ⊢
    cases ht : E.ty t with
    | none => rfl
    | some i =>
      rw [ht] at hp
      dsimp only at hp ⊢
      split
      · rfl
      · rename_i r' o' hx
        rw [hx] at hp
        dsimp only at hp
        have : r' ≠ r := by
          intro e
          subst e
          rw [hr] at hp
          exact hp
        rw [Heap.put_ne _ _ this]
      · rfl

theorem ownSpec_congr {ρ ρ' : Operand → PV} {op : Op} (h0 : ∀ x ∈ op.operands, ρ x = ρ' x) : ownSpec S ρ op = ownSpec S ρ' op := by
  cases op <;> try rfl
  case call c =>
    simp only [Op.operands] at h0
    have hargs : ∀ x ∈ c.args.toList, ρ x = ρ' x := fun x hx => h0 x (by simp at hx; simp [Call.operands, hx])
    simp only [ownSpec]
    split
    · rw [List.map_congr_left hargs]
      have : (c.args.toList.all fun x => okArg (ρ x)) = (c.args.toList.all fun x => okArg (ρ' x)) := by
        rw [Bool.eq_iff_iff, List.all_eq_true, List.all_eq_true]
        constructor <;> intro hh x hx
        · rw [← hargs x hx]; exact hh x hx
        · rw [hargs x hx]; exact hh x hx
      rw [this]
    · unfold appSpec
      split
      · rename_i s x hsx
        rw [hargs s (by rw [hsx]; simp), hargs x (by rw [hsx]; simp)]
      · rfl
    · rfl
def LOp (E : Env) (S : Specs E) (ops : Array Oper) (i : Nat) (K : AS → Prop) (a : AS) : Prop :=
  match ops[i]? with
  | none => K a
  | some o => okDst a.n o.dst = true ∧ if wantedA ops a o = some true then step1 E S o a K else if wantedA ops a o = some false then K (a.put o.dst (.tuple [])) else False
theorem LOp.mono {i : Nat} {a : AS} {K K' : AS → Prop} (hk : ∀ a, K a → K' a) (hs : LOp E S ops i K a) : LOp E S ops i K' a := by
  unfold LOp at hs ⊢
  split
  · rename_i e; rw [e] at hs; exact hk _ hs
  · rename_i o e
    rw [e] at hs
    refine ⟨hs.1, ?_⟩
    have hs := hs.2
    split
    · rename_i e; rw [if_pos e] at hs; exact step1_mono hk hs
    · rename_i e
      rw [if_neg e] at hs
      split
      · rename_i e; rw [if_pos e] at hs; exact hk _ hs
      · rename_i e; rw [if_neg e] at hs; exact hs
theorem AEq.lop {a b : AS} (e : AEq a b) {i : Nat} {K : AS → Prop} (hK : ∀ a b, AEq a b → K a → K b) (hs : LOp E S ops i K a) : LOp E S ops i K b := by
  unfold LOp at hs ⊢
  split
  · rename_i e1; rw [e1] at hs; exact hK _ _ e hs
  · rename_i o e1
    rw [e1] at hs
    refine ⟨by rw [← e.1]; exact hs.1, ?_⟩
    have hs := hs.2
    rw [← e.wanted]
    split
    · rename_i e2; rw [if_pos e2] at hs; exact e.step1 hK hs
    · rename_i e2
      rw [if_neg e2] at hs
      split
      · rename_i e2; rw [if_pos e2] at hs; exact hK _ _ (e.put _ _) hs
      · rename_i e2; rw [if_neg e2] at hs; exact hs
def LAny (E : Env) (S : Specs E) (md : Region.Mode) (ops : Array Oper) (Q : AS → Prop) : Nat → Array Bool → AS → Prop
  | 0, listed, a => Region.ready md ops listed = [] ∧ Q a
  | fuel + 1, listed, a => (Region.ready md ops listed = [] → Q a) ∧ ∀ i ∈ Region.ready md ops listed, LOp E S ops i (LAny E S md ops Q fuel (listed.setIfInBounds i true)) a
theorem AEq.lany {Q : AS → Prop} (hQ : ∀ a b, AEq a b → Q a → Q b) : ∀ (fuel : Nat) {listed : Array Bool} {a b : AS}, AEq a b → LAny E S md ops Q fuel listed a → LAny E S md ops Q fuel listed b
  | 0, _, _, _, e, h => ⟨h.1, hQ _ _ e h.2⟩
  | fuel + 1, _, _, _, e, h => ⟨fun h0 => hQ _ _ e (h.1 h0), fun i hi => e.lop (fun _ _ e h => AEq.lany hQ fuel e h) (h.2 i hi)⟩
theorem LAny.sound {Q : AS → Prop} : ∀ (fuel : Nat) {listed : Array Bool} {a : AS}, LAny E S md ops Q fuel listed a → ∀ {w I G act}, Good E w I G a.h → RS E w I a act → ∀ {w0 I0 G0 h0}, Stp E.mono w0 I0 G0 h0 w I G a.h →
    wpAny E.P md ops (Post E w0 I0 G0 h0 (fun e a => e = .normal ∧ Q a)) fuel listed act w
  | 0, _, a, h, w, I, G, act, g, r, _, _, _, _, s => ⟨h.1, a, I, G, g, r, s, rfl, h.2⟩
  | fuel + 1, listed, a, h, w, I, G, act, g, r, w0, I0, G0, h0, s => by
    refine ⟨fun e => ⟨a, I, G, g, r, s, rfl, h.1 e⟩, fun i hi => ?_⟩
    have h1 := h.2 i hi
    unfold LOp at h1
    unfold wpOp
    split
    · rename_i e
      rw [e] at h1
      exact LAny.sound fuel h1 g r s
    · rename_i o e
      rw [e] at h1
      obtain ⟨hd, h1⟩ := h1
      cases hw : wantedA ops a o with
      | none => rw [hw] at h1; simp at h1
      | some b =>
        rw [hw] at h1
        cases b with
        | true =>
          rw [if_pos rfl] at h1
          rw [if_pos (r.wanted hw)]
          exact .inl (step1_wp hd h1 g r fun a' act' w' I' G' g' r' s' k => LAny.sound fuel k g' r' (s.trans s'))
        | false =>
          rw [if_neg (by simp), if_pos rfl] at h1
          rw [if_neg (by rw [r.wanted hw]; simp)]
          have hh : (a.put o.dst (.tuple [])).h = a.h := put_h a _ _
          exact LAny.sound fuel h1 (by rw [hh]; exact g) (r.put hd ⟨[], rfl, rfl⟩) (by rw [hh]; exact s)

def LY (E : Env) (S : Specs E) (ops : Array Oper) (o : Oper) (v : PV) (a : AS) : Prop :=
  okDst a.n o.dst = true ∧ ((wantedA ops a o = some true ∧ (px E S (a.eval E) a.h o.op).1 ∧ v = (px E S (a.eval E) a.h o.op).2) ∨ (wantedA ops a o = some false ∧ v = .tuple []))
theorem step1_quiet {o : Oper} {a : AS} {K : AS → Prop} (hq : quietOp S o.op = true) : step1 E S o a K ↔ (px E S (a.eval E) a.h o.op).1 ∧ K (a.put o.dst (px E S (a.eval E) a.h o.op).2) := by
  unfold Lift.step1
  unfold quietOp at hq
  split
  · rename_i t hop; rw [hop] at hq; cases hq
  · rename_i t x hop; rw [hop] at hq; cases hq
  · rename_i h1 h2
    split at hq
    · rename_i t hop; cases hq
    · rename_i t x hop; cases hq
    · simp only [Bool.not_eq_true', Bool.or_eq_false_iff] at hq
      rw [if_neg (by rw [hq.1]; simp), if_neg (by rw [hq.2]; simp)]
theorem LY.lop {i : Nat} {o : Oper} {v : PV} {a : AS} (hi : ops[i]? = some o) (hq : quietOp S o.op = true) (hy : LY E S ops o v a) {K : AS → Prop} (k : K (a.put o.dst v)) : LOp E S ops i K a := by
  unfold LOp
  simp only [hi]
  refine ⟨hy.1, ?_⟩
  rcases hy.2 with ⟨hw, hp, rfl⟩ | ⟨hw, rfl⟩
  · rw [hw, if_pos rfl]; exact (step1_quiet hq).2 ⟨hp, k⟩
  · rw [hw, if_neg (by simp), if_pos rfl]; exact k
theorem LOp.ly {i : Nat} {o : Oper} {a : AS} {K : AS → Prop} (hi : ops[i]? = some o) (hq : quietOp S o.op = true) (hs : LOp E S ops i K a) : ∃ v, LY E S ops o v a ∧ K (a.put o.dst v) := by
  unfold LOp at hs
  simp only [hi] at hs
  obtain ⟨hd, hs⟩ := hs
  cases hw : wantedA ops a o with
  | none => rw [hw] at hs; simp at hs
  | some b =>
    rw [hw] at hs
    cases b with
    | true =>
      rw [if_pos rfl] at hs
      obtain ⟨h1, h2⟩ := (step1_quiet hq).1 hs
      exact ⟨_, ⟨hd, .inl ⟨hw, h1, rfl⟩⟩, h2⟩
    | false =>
      rw [if_neg (by simp), if_pos rfl] at hs
      exact ⟨.tuple [], ⟨hd, .inr ⟨hw, rfl⟩⟩, hs⟩
theorem LOp.past {j : Nat} {oi oj : Oper} {v : PV} {a : AS} {K : AS → Prop} (hK : ∀ a b, AEq a b → K a → K b) (hj : ops[j]? = some oj) (hap : oi.apart ops oj = true) (hls : (isLoad oi.op && hxOp S oj.op) = false)
    (hy : LY E S ops oi v a) (hs : LOp E S ops j K (a.put oi.dst v)) : LOp E S ops j (fun a' => LY E S ops oi v a' ∧ K (a'.put oi.dst v)) a := by
  obtain ⟨h1, h2, h3⟩ := Oper.apart_spec hap
  have hn : ∀ (d : Option Tmp) (v : PV), (a.put d v).n = a.n := fun d v => by cases d <;> rfl
  have keep : ∀ (u : PV) (h' : Heap), ((px E S (a.eval E) a.h oi.op).1 → px E S (a.eval E) h' oi.op = px E S (a.eval E) a.h oi.op) → LY E S ops oi v { a.put oj.dst u with h := h' } := fun u h' hh => by
    refine ⟨(congrArg (fun n => okDst n oi.dst) (hn oj.dst u)).trans hy.1, ?_⟩
    have hw : wantedA ops { a.put oj.dst u with h := h' } oi = wantedA ops a oi := (wanted_putA (v := u) h3 : wantedA ops (a.put oj.dst u) oi = wantedA ops a oi)
    have hp : px E S (AS.eval E { a.put oj.dst u with h := h' }) h' oi.op = px E S (a.eval E) h' oi.op := by
      have : AS.eval E { a.put oj.dst u with h := h' } = (a.put oj.dst u).eval E := by funext x; cases x <;> rfl
      rw [this]
      exact px_put h3
    rw [hw]
    show (_ ∧ (px E S (AS.eval E { a.put oj.dst u with h := h' }) h' oi.op).1 ∧ v = (px E S (AS.eval E { a.put oj.dst u with h := h' }) h' oi.op).2) ∨ _
    rw [hp]
    rcases hy.2 with ⟨hw, hp, rfl⟩ | ⟨hw, rfl⟩
    · rw [hh hp]; exact .inl ⟨hw, hp, rfl⟩
    · exact .inr ⟨hw, rfl⟩
  have same : ∀ (u : PV), LY E S ops oi v (a.put oj.dst u) := fun u => by
    have := keep u a.h (fun _ => rfl)
    have e : ({ a.put oj.dst u with h := a.h } : AS) = a.put oj.dst u := by cases oj.dst <;> rfl
    rw [e] at this
    exact this
  have swap : ∀ (u : PV) (h' : Heap), K { (a.put oi.dst v).put oj.dst u with h := h' } → K ({ a.put oj.dst u with h := h' }.put oi.dst v) := fun u h' k => by
    have e : ({ a.put oj.dst u with h := h' } : AS).put oi.dst v = { (a.put oj.dst u).put oi.dst v with h := h' } := by cases oi.dst <;> rfl
    rw [e]
    exact hK _ _ ((put_comm a v u h2).heap h') k
  have swap' : ∀ (u : PV), K ((a.put oi.dst v).put oj.dst u) → K ((a.put oj.dst u).put oi.dst v) := fun u k => hK _ _ (put_comm a v u h2) k
  have heval : ∀ x ∈ oj.op.operands, (a.put oi.dst v).eval E x = a.eval E x := fun x hx => eval_put fun t e e2 => h1 t e (by subst e2; exact List.mem_append_left _ (List.mem_filterMap.2 ⟨.tmp t, by simpa using hx, rfl⟩))
  have hah : (a.put oi.dst v).h = a.h := put_h a _ _
  unfold LOp at hs ⊢
  simp only [hj] at hs ⊢
  rw [hn oi.dst v, wanted_putA (v := v) h1] at hs
  refine ⟨hs.1, ?_⟩
  have hs := hs.2
  cases hw : wantedA ops a oj with
  | none => rw [hw] at hs; simp at hs
  | some b =>
    rw [hw] at hs
    cases b with
    | false =>
      rw [if_neg (by simp), if_pos rfl] at hs ⊢
      exact ⟨same _, swap' _ hs⟩
    | true =>
      rw [if_pos rfl] at hs ⊢
      cases hq : quietOp S oj.op with
      | true =>
        rw [step1_quiet hq] at hs ⊢
        rw [hah, px_put h1] at hs
        exact ⟨hs.1, same _, swap' _ hs.2⟩
      | false =>
        unfold Lift.step1 at hs ⊢
        split at hs
        · rename_i t hop
          rw [hah] at hs
          exact ⟨hs.1, fun r hr => ⟨keep _ _ fun hp => px_fresh hr hp, swap _ _ (hs.2 r hr)⟩⟩
        · rename_i t x hop
          rw [heval x (by rw [hop]; simp [Op.operands]), hah] at hs
          exact ⟨hs.1, fun r hr => ⟨keep _ _ fun hp => px_fresh hr hp, swap _ _ (hs.2 r hr)⟩⟩
        · rename_i n1 n2
          by_cases hoc : isOwnCall S oj.op = true
          · rw [if_pos hoc] at hs ⊢
            have hos : ownSpec S ((a.put oi.dst v).eval E) oj.op = ownSpec S (a.eval E) oj.op := ownSpec_congr heval
            rw [hah, hos] at hs
            refine ⟨hs.1, fun u h' ow => ⟨keep _ _ fun hp => ?_, swap _ _ (hs.2 u h' ow)⟩⟩
            rcases ow.shape with rfl | ⟨r, X, hr, rfl⟩
            · rfl
            · exact px_fresh hr hp
          rw [if_neg hoc] at hs ⊢
          have hxo : hxOp S oj.op = true := by
            unfold quietOp at hq
            split at hq
            · rename_i t hop; exact absurd hop (n1 t)
            · rename_i t x hop; exact absurd hop (n2 t x)
            · simp only [Bool.not_eq_false', Bool.or_eq_true] at hq
              exact hq.resolve_left hoc
          rw [if_pos hxo] at hs ⊢
          have hil : isLoad oi.op = false := by
            rw [hxo] at hls
            simpa using hls
          rw [hah, hx_congr heval] at hs
          exact ⟨hs.1, keep _ _ (fun _ => px_heap hil _ _), swap _ _ hs.2⟩
def waits (md : Region.Mode) (ops : Array Oper) (i : Nat) : Nat → Nat → Bool
  | 0, _ => false
  | n + 1, j => match ops[j]? with
    | none => false
    | some o => o.after.any fun e => Region.binds md e && (e.on == i || waits md ops i n e.on)
def Closed (md : Region.Mode) (ops : Array Oper) (listed : Array Bool) : Prop :=
  ∀ j o, ops[j]? = some o → listed.getD j false = true → ∀ e ∈ o.after, Region.binds md e = true → listed.getD e.on false = true
theorem waits_no {i : Nat} {listed : Array Bool} (hcl : Closed md ops listed) (hi : listed.getD i false = false) : ∀ (n j : Nat) (o : Oper), ops[j]? = some o → (∀ e ∈ o.after, Region.binds md e = true → listed.getD e.on false = true) → waits md ops i n j = false
  | 0, _, _, _, _ => rfl
  | n + 1, j, o, ho, hall => by
    unfold waits
    rw [ho]
    dsimp only
    rw [← Bool.not_eq_true, Array.any_eq_true']
    rintro ⟨e, he, hb⟩
    simp only [Bool.and_eq_true, Bool.or_eq_true, beq_iff_eq] at hb
    have h1 := hall e he hb.1
    rcases hb.2 with h2 | h2
    · rw [h2, hi] at h1; cases h1
    · cases ho2 : ops[e.on]? with
      | none =>
        cases n with
        | zero => cases h2
        | succ n => simp [waits, ho2] at h2
      | some o2 =>
        rw [waits_no hcl hi n e.on o2 ho2 (hcl _ _ ho2 h1)] at h2
        cases h2
theorem Closed.step {listed : Array Bool} (hcl : Closed md ops listed) {j : Nat} (hj : j ∈ Region.ready md ops listed) : Closed md ops (listed.setIfInBounds j true) := by
  obtain ⟨_, oj, hoj, hall⟩ := mem_ready.1 hj
  intro x o ho hx e he hb
  by_cases hxj : j = x
  · subst hxj
    rw [hoj] at ho
    injection ho with ho
    subst ho
    exact getD_set_true (hall e he hb)
  · rw [getD_set_ne false hxj] at hx
    exact getD_set_true (hcl x o ho hx e he hb)
theorem Closed.start (md : Region.Mode) (ops : Array Oper) (n : Nat) : Closed md ops (Array.replicate n false) := by
  intro j o _ h
  simp [Array.getD_eq_getD_getElem?, Array.getElem?_replicate] at h
  split at h <;> simp at h
theorem LAny.first {Q : AS → Prop} (hQ : ∀ a b, AEq a b → Q a → Q b) {i : Nat} {oi : Oper} {v : PV} (hi : ops[i]? = some oi) (hq : quietOp S oi.op = true) :
    ∀ (fuel : Nat) (listed : Array Bool) (a : AS),
      (∀ j oj, ops[j]? = some oj → j ≠ i → listed.getD j true = false → waits md ops i ops.size j = false → oi.apart ops oj = true ∧ (isLoad oi.op && hxOp S oj.op) = false) →
      Closed md ops listed → i ∈ Region.ready md ops listed → LY E S ops oi v a →
      LAny E S md ops Q fuel (listed.setIfInBounds i true) (a.put oi.dst v) → LAny E S md ops Q (fuel + 1) listed a := by
  intro fuel
  induction fuel with
  | zero =>
    intro listed a _ _ hr hy H
    refine ⟨fun h => (by rw [h] at hr; cases hr), fun j hj => ?_⟩
    by_cases hji : j = i
    · subst hji; exact hy.lop hi hq H
    · have := ready_mono hj hji
      rw [H.1] at this
      cases this
  | succ fuel ih =>
    intro listed a hfree hcl hr hy H
    refine ⟨fun h => (by rw [h] at hr; cases hr), fun j hj => ?_⟩
    by_cases hji : j = i
    · subst hji; exact hy.lop hi hq H
    · have h1 := H.2 j (ready_mono hj hji)
      obtain ⟨hjun, oj, hoj, hall⟩ := mem_ready.1 hj
      have hi0 : listed.getD i false = false := by
        have h0 := (mem_ready.1 hr).1
        rcases Nat.lt_or_ge i listed.size with h' | h'
        · simp [h'] at h0 ⊢; exact h0
        · simp [Array.getElem?_eq_none h'] at h0
      have hnot : waits md ops i ops.size j = false := waits_no hcl hi0 _ _ _ hoj hall
      obtain ⟨hap, hls⟩ := hfree j oj hoj hji hjun hnot
      have h2 := LOp.past (fun _ _ e k => AEq.lany hQ fuel e k) hoj hap hls hy h1
      have hfree' : ∀ k ok, ops[k]? = some ok → k ≠ i → (listed.setIfInBounds j true).getD k true = false →
          waits md ops i ops.size k = false → oi.apart ops ok = true ∧ (isLoad oi.op && hxOp S ok.op) = false := fun k ok hk hki hun hno => by
        refine hfree k ok hk hki ?_ hno
        by_cases hjk : j = k
        · subst hjk; exact hjun
        · rw [getD_set_ne true hjk] at hun; exact hun
      refine LOp.mono (fun a' h3 => ih (listed.setIfInBounds j true) a' hfree' (hcl.step (ready_mono hj hji |> fun _ => hj)) (ready_mono hr (Ne.symm hji)) h3.1 ?_) h2
      rw [Array.setIfInBounds_comm _ _ hji]
      exact h3.2

def freeL (S : Specs E) (md : Region.Mode) (ops : Array Oper) (listed : Array Bool) (i : Nat) : Bool :=
  match ops[i]? with
  | none => false
  | some oi => quietOp S oi.op && (List.range ops.size).all fun j => j == i || listed.getD j true || match ops[j]? with
      | some oj => waits md ops i ops.size j || (oi.apart ops oj && !(isLoad oi.op && hxOp S oj.op))
      | none => true
theorem freeL_spec {i : Nat} {oi : Oper} {listed : Array Bool} (hi : ops[i]? = some oi) (h : freeL S md ops listed i = true) : quietOp S oi.op = true ∧ ∀ (j : Nat) (oj : Oper), ops[j]? = some oj → j ≠ i → listed.getD j true = false → waits md ops i ops.size j = false →
    oi.apart ops oj = true ∧ (isLoad oi.op && hxOp S oj.op) = false := by
  simp only [freeL, hi, Bool.and_eq_true, List.all_eq_true, List.mem_range] at h
  refine ⟨h.1, fun j oj hj hne hun hno => ?_⟩
  have h1 := h.2 j (Array.getElem?_eq_some_iff.1 hj).1
  simp only [hj, Bool.or_eq_true, beq_iff_eq, hne, false_or, hun, Bool.false_eq_true] at h1
  rcases h1 with h1 | h1
  · rw [hno] at h1; cases h1
  · simp only [Bool.and_eq_true, Bool.not_eq_true'] at h1
    exact h1
def ordOK (S : Specs E) (md : Region.Mode) (ops : Array Oper) : List Nat → Array Bool → Bool
  | [], listed => (Region.ready md ops listed).isEmpty
  | i :: l, listed => (Region.ready md ops listed).contains i && (ops[i]?).isSome && (freeL S md ops listed i || Region.ready md ops listed == [i]) && ordOK S md ops l (listed.setIfInBounds i true)
def wpO (E : Env) (S : Specs E) (ops : Array Oper) : List Nat → (AS → Prop) → AS → Prop
  | [], Q, a => Q a
  | i :: l, Q, a => LOp E S ops i (wpO E S ops l Q) a
theorem wpO_any {Q : AS → Prop} (hQ : ∀ a b, AEq a b → Q a → Q b) : ∀ (l : List Nat) (listed : Array Bool) (a : AS), Closed md ops listed → ordOK S md ops l listed = true → wpO E S ops l Q a → LAny E S md ops Q l.length listed a
  | [], listed, a, _, hB, h => ⟨by simpa [ordOK] using hB, h⟩
  | i :: l, listed, a, hcl, hB, h => by
    simp only [ordOK, Bool.and_eq_true] at hB
    obtain ⟨⟨⟨hr, hi⟩, hf⟩, hB'⟩ := hB
    obtain ⟨oi, hi⟩ := Option.isSome_iff_exists.1 hi
    have hr : i ∈ Region.ready md ops listed := by simpa using hr
    simp only [wpO] at h
    rcases Bool.or_eq_true _ _ ▸ hf with hf | hf
    · obtain ⟨hq, hfree⟩ := freeL_spec hi hf
      obtain ⟨v, hy, hk⟩ := h.ly hi hq
      exact LAny.first hQ hi hq l.length listed a hfree hcl hr hy (wpO_any hQ l _ _ (hcl.step hr) hB' hk)
    · have hf : Region.ready md ops listed = [i] := by simpa using hf
      refine ⟨fun e => (by rw [hf] at e; cases e), fun j hj => ?_⟩
      rw [hf] at hj
      have : j = i := by simpa using hj
      subst this
      exact h.mono fun a k => wpO_any hQ l _ _ (hcl.step hr) hB' k
def wpOL (E : Env) (S : Specs E) (ops : Array Oper) : List (List Nat) → (AS → Prop) → AS → Prop
  | [], Q, a => Q a
  | l :: ls, Q, a => wpO E S ops l (wpOL E S ops ls Q) a
theorem wpO.mono {Q Q' : AS → Prop} (hq : ∀ a, Q a → Q' a) : ∀ (l : List Nat) {a : AS}, wpO E S ops l Q a → wpO E S ops l Q' a
  | [], _, h => hq _ h
  | _ :: l, _, h => LOp.mono (fun _ k => wpO.mono hq l k) h
theorem wpO_append {Q : AS → Prop} : ∀ (l l' : List Nat) {a : AS}, wpO E S ops l (wpO E S ops l' Q) a → wpO E S ops (l ++ l') Q a
  | [], _, _, h => h
  | _ :: l, l', _, h => LOp.mono (fun _ k => wpO_append l l' k) h
theorem wpOL_flat {Q : AS → Prop} : ∀ (ls : List (List Nat)) {a : AS}, wpOL E S ops ls Q a → wpO E S ops ls.flatten Q a
  | [], _, h => h
  | l :: ls, _, h => wpO_append l ls.flatten (wpO.mono (fun _ k => wpOL_flat ls k) l h)
theorem wpOp_mono_post {P : Program} {K K' : Act → World → Prop} {Q Q' : Exit → Act → World → Prop} (hk : ∀ a w, K a w → K' a w) (hq : ∀ e a w, Q e a w → Q' e a w) {i : Nat} {a : Act} {w : World} (h : wpOp P ops Q i K a w) : wpOp P ops Q' i K' a w := by
  unfold wpOp at h ⊢
  split
  · rename_i e; rw [e] at h; exact hk _ _ h
  · rename_i o e
    rw [e] at h
    dsimp only at h
    split
    · rename_i hw
      rw [if_pos hw] at h
      rcases h with h | ⟨h1, h2⟩
      · exact .inl (upon_mono hk hq h)
      · exact .inr ⟨h1, LetsOut.mono hq h2⟩
    · rename_i hw; rw [if_neg hw] at h; exact hk _ _ h
theorem wpAny_mono_post {P : Program} {Q Q' : Exit → Act → World → Prop} (hq : ∀ e a w, Q e a w → Q' e a w) : ∀ (fuel : Nat) (listed : Array Bool) (a : Act) (w : World), wpAny P md ops Q fuel listed a w → wpAny P md ops Q' fuel listed a w
  | 0, _, _, _, h => ⟨h.1, hq _ _ _ h.2⟩
  | fuel + 1, _, _, _, h => ⟨fun e => hq _ _ _ (h.1 e), fun i hi => wpOp_mono_post (fun a w k => wpAny_mono_post hq fuel _ a w k) hq (h.2 i hi)⟩
theorem SW.regionAny (S : Specs E) {id : Nat} {l : List Oper} {Q : Exit → AS → Prop} {a : AS} (ls : List (List Nat)) (hm : E.P.follows .mixedOrders = true) (hlen : ls.flatten.length = l.length) (hord : ordOK S .any l.toArray ls.flatten (Array.replicate l.length false) = true)
    (h : wpOL E S l.toArray ls (Q .normal) a) : SW E (.region id l.toArray true) Q a := by
  intro w I G act g r
  refine wp_region_any hm ?_
  have h1 : wpO E S l.toArray ls.flatten (fun b => ∃ c, AEq c b ∧ Q .normal c) a := wpO.mono (fun c k => ⟨c, .refl c, k⟩) _ (wpOL_flat ls h)
  have h2 := wpO_any (md := .any) (fun a b e ⟨c, hc, k⟩ => ⟨c, hc.trans e, k⟩) _ _ _ (Closed.start _ _ _) hord h1
  have hk : Keeps w I { w with drawn := w.drawn + 1 } I := fun k hk => ⟨hk, rfl⟩
  have g' : Good E { w with drawn := w.drawn + 1 } I G a.h := ⟨fun r o h => by
    obtain ⟨k1, k2, k3, k4⟩ := g.own r o h
    refine ⟨k1, k2, k3, ?_⟩
    cases o with
    | cells t size cs => obtain ⟨us, rest, e1, e2, e3⟩ := k4; exact ⟨us, rest, e1, RL.keeps hk _ _ e2, e3⟩
    | bld => exact k4
    | pmap => exact k4
    | miter => exact k4
    | gmap => obtain ⟨ents, e1, e2⟩ := k4; exact ⟨ents, e1, RM.keeps hk _ _ e2⟩
    | iter => exact k4, g.hid, g.imm, fun g0 cs e => R1.keeps hk _ _ (g.glob g0 cs e), E.keepW _ _ _ _ hk g.inv⟩
  have r' : RS E { w with drawn := w.drawn + 1 } I a act := r.keeps hk
  have h3 := LAny.sound _ h2 g' r' (w0 := w) (I0 := I) (G0 := G) (h0 := a.h) ⟨rfl, rfl, rfl, Nat.le_refl _, fun _ _ a b => ⟨rfl, a, b⟩, fun _ h => h, fun _ _ _ _ h => h, fun _ => Nat.le_succ _⟩
  have hsz : l.toArray.size = ls.flatten.length := by rw [hlen]; simp
  rw [hsz, hlen]
  rw [hlen] at h3
  refine wpAny_mono_post ?_ _ _ _ _ h3
  rintro e act' w' ⟨b, I', G', gb, rb, sb, rfl, c, hc, k⟩
  exact ⟨c, I', G', by rw [hc.2.1]; exact gb, rb.same hc.1 hc.2.2, by rw [hc.2.1]; exact sb, k⟩
end
end Go.Proofs.YtpgnfbdkhakbdaaGreatDoor.Lift

namespace Go.Proofs.YtpgnfbdkhakbdaaGreatDoor.Lift
open Go Go.RowKit

section
variable {E : Env} {S : Specs E} {w w1 w' : World} {I I1 I' : Nat → Prop} {G G1 G' : Nat → Option Nat} {h h' : Heap}

def bytePVs (bs : List UInt8) : List PV := bs.map fun b => .int .u8 b.toNat
theorem RL_bytePVs (w : World) (I : Nat → Prop) (bs : List UInt8) : RL w I (bytePVs bs) (byteVals bs) := by
  induction bs with
  | nil => rfl
  | cons b bs ih => exact ⟨_, _, rfl, rfl, ih⟩
def dropG (G : Nat → Option Nat) (r : Nat) : Nat → Option Nat := fun k => if G k = some r then none else G k
theorem Good.unfold (g : Good E w I G h) {r : Nat} {T e : TypeId} {bs : List UInt8} (hr : h r = some (.bld T e bs)) :
    (bs = [] ∧ ∃ p G', (p = none ∨ p = some ⟨r, 0, none⟩) ∧ Good E w I G' (h.put r (.cells T 2 [.val (.pointer p), .val (.slice none 0 0)])) ∧ Stp E.mono w I G h w I G' (h.put r (.cells T 2 [.val (.pointer p), .val (.slice none 0 0)]))) ∨
    (∃ k cap G', h k = none ∧ k ≠ r ∧ bs.length ≤ cap ∧ cap ≤ maxLen ∧ 0 < cap ∧
      Good E w I G' ((h.put r (.cells T 2 [.val (.pointer (some ⟨r, 0, none⟩)), .val (.slice (some ⟨k, 0, none⟩) bs.length cap)])).put k (.cells e cap (bytePVs bs))) ∧
      Stp E.mono w I G h w I G' ((h.put r (.cells T 2 [.val (.pointer (some ⟨r, 0, none⟩)), .val (.slice (some ⟨k, 0, none⟩) bs.length cap)])).put k (.cells e cap (bytePVs bs)))) := by
  obtain ⟨r1, r2, r3, hob⟩ := g.own r _ hr
  have dn : ∀ k, G k = none → dropG G r k = none := fun k e1 => by unfold dropG; rw [e1]; rfl
  have ds : ∀ k q, dropG G r k = some q → G k = some q ∧ q ≠ r := fun k q e1 => by
    unfold dropG at e1
    split at e1
    · cases e1
    · rename_i hne; exact ⟨e1, fun e2 => hne (by rw [e1, e2])⟩
  have dk : ∀ k q, q ≠ r → G k = some q → dropG G r k = some q := fun k q hq e1 => by
    unfold dropG
    rw [if_neg (fun e2 => hq (by rw [e1] at e2; injection e2)), e1]
  have old : ∀ q o, q ≠ r → h q = some o → q < w.heap.size ∧ ¬ I q ∧ dropG G r q = none ∧ RObj w I (dropG G r) q o := fun q o hqr hq => by
    obtain ⟨h1, h2, h3, h4⟩ := g.own q o hq
    exact ⟨h1, h2, dn q h3, h4.keeps (fun k hk => ⟨hk, rfl⟩) rfl (fun k hk => ⟨dk k q hqr hk, rfl⟩)⟩
  rcases hob with ⟨hbs, p, hp, hcell⟩ | ⟨k, cap, rest, hk, hcell, hrow, hlen, hcm, hc0⟩
  · left
    refine ⟨hbs, p, dropG G r, hp, ⟨fun q o hq => ?_, fun k q hk' => ?_, g.imm, g.glob, g.inv⟩, ⟨rfl, rfl, rfl, Nat.le_refl _, fun k _ a b => ⟨rfl, ?_, dn k b⟩, fun _ h => h, fun _ _ _ _ h => h, fun _ => Nat.le_refl _⟩⟩
    · by_cases e1 : q = r
      · subst e1
        rw [Heap.put_same] at hq
        injection hq with hq; subst hq
        exact ⟨r1, r2, dn _ r3, [.pointer p, .slice none 0 0], [], hcell, ⟨_, _, rfl, ⟨rfl, rfl⟩, _, _, rfl, ⟨rfl, rfl⟩, rfl⟩, rfl⟩
      · rw [Heap.put_ne _ _ e1] at hq
        exact old q o e1 hq
    · obtain ⟨e1, e2⟩ := ds k q hk'
      obtain ⟨h1, h2, h3, T', e', bs', h4⟩ := g.hid k q e1
      exact ⟨h1, h2, by rw [Heap.put_none]; exact ⟨fun e3 => (by subst e3; rw [hr] at h3; cases h3), h3⟩, T', e', bs', by rw [Heap.put_ne _ _ e2]; exact h4⟩
    · rw [Heap.put_none]
      exact ⟨fun e3 => (by subst e3; rw [hr] at a; cases a), a⟩
  · right
    obtain ⟨k1, k2, k3, _⟩ := g.hid k r hk
    have hkr : k ≠ r := fun e1 => (by subst e1; rw [hr] at k3; cases k3)
    refine ⟨k, cap, dropG G r, k3, hkr, by omega, hcm, hc0, ⟨fun q o hq => ?_, fun j q hj => ?_, g.imm, g.glob, g.inv⟩, ⟨rfl, rfl, rfl, Nat.le_refl _, fun j _ a b => ⟨rfl, ?_, dn j b⟩, fun _ h => h, fun _ _ _ _ h => h, fun _ => Nat.le_refl _⟩⟩
    · by_cases e1 : q = k
      · subst e1
        rw [Heap.put_same] at hq
        injection hq with hq; subst hq
        exact ⟨k1, k2, by unfold dropG; rw [if_pos hk], _, rest, hrow, RL_bytePVs w I bs, by simpa [byteVals] using hlen⟩
      · rw [Heap.put_ne _ _ e1] at hq
        by_cases e2 : q = r
        · subst e2
          rw [Heap.put_same] at hq
          injection hq with hq; subst hq
          exact ⟨r1, r2, dn _ r3, [.pointer (some ⟨q, 0, none⟩), .slice (some ⟨k, 0, none⟩) bs.length cap], [], hcell, ⟨_, _, rfl, ⟨rfl, rfl⟩, _, _, rfl, ⟨rfl, rfl⟩, rfl⟩, rfl⟩
        · rw [Heap.put_ne _ _ e2] at hq
          exact old q o e2 hq
    · obtain ⟨e1, e2⟩ := ds j q hj
      obtain ⟨h1, h2, h3, T', e', bs', h4⟩ := g.hid j q e1
      have hjk : j ≠ k := fun e3 => (by subst e3; rw [hk] at e1; injection e1 with e1; exact e2 e1.symm)
      have hqk : q ≠ k := fun e3 => (by subst e3; rw [k3] at h4; cases h4)
      refine ⟨h1, h2, ?_, T', e', bs', ?_⟩
      · rw [Heap.put_none, Heap.put_none]
        exact ⟨hjk, fun e3 => (by subst e3; rw [hr] at h3; cases h3), h3⟩
      · rw [Heap.put_ne _ _ hqk, Heap.put_ne _ _ e2]; exact h4
    · rw [Heap.put_none, Heap.put_none]
      exact ⟨fun e3 => (by subst e3; rw [hk] at b; cases b), fun e3 => (by subst e3; rw [hr] at a; cases a), a⟩
theorem RL_two {x y : Value} {us rest : List Value} (hr : RL w I [.val x, .val y] us) (hl : us.length + rest.length = 2) : (us ++ rest).toArray = #[x, y] := by
  obtain ⟨u, us', rfl, ⟨rfl, _⟩, u2, us2, rfl, ⟨rfl, _⟩, h3⟩ := hr
  have h3 : us2 = [] := h3
  subst h3
  have : rest = [] := by simpa using hl
  subst this
  rfl
theorem Good.fold_row (g : Good E w I G h) {r k cap : Nat} {T e : TypeId} {bs : List UInt8} (hr : h r = some (.cells T 2 [.val (.pointer (some ⟨r, 0, none⟩)), .val (.slice (some ⟨k, 0, none⟩) bs.length cap)])) (hk : h k = some (.cells e cap (bytePVs bs))) (hkr : k ≠ r) (hcm : cap ≤ maxLen) (hc0 : 0 < cap) :
    ∃ G', Good E w I G' ((h.del k).put r (.bld T e bs)) ∧ Stp E.mono w I G h w I G' ((h.del k).put r (.bld T e bs)) := by
  obtain ⟨r1, r2, r3, us, rest, hcell, hrl, hsz⟩ := g.own r _ hr
  obtain ⟨k1, k2, k3, us2, rest2, hrow, hrl2, hsz2⟩ := g.own k _ hk
  have hus2 := RL_byteVals hrl2
  subst hus2
  rw [RL_two hrl hsz] at hcell
  refine ⟨fun j => if j = k then some r else G j, ⟨fun q o hq => ?_, fun j q hj => ?_, g.imm, g.glob, g.inv⟩, ⟨rfl, rfl, rfl, Nat.le_refl _, fun j _ a b => ⟨rfl, ?_, ?_⟩, fun _ h => h, fun _ _ _ _ h => h, fun _ => Nat.le_refl _⟩⟩
  · by_cases e1 : q = r
    · subst e1
      rw [Heap.put_same] at hq
      injection hq with hq; subst hq
      refine ⟨r1, r2, by rw [if_neg (fun e2 => hkr e2.symm)]; exact r3, .inr ⟨k, cap, rest2, if_pos rfl, hcell, hrow, by simpa [byteVals] using hsz2, hcm, hc0⟩⟩
    · rw [Heap.put_ne _ _ e1] at hq
      have e2 : q ≠ k := fun e2 => (by subst e2; rw [Heap.del_same] at hq; cases hq)
      rw [Heap.del_ne _ e2] at hq
      obtain ⟨h1, h2, h3, h4⟩ := g.own q o hq
      refine ⟨h1, h2, by rw [if_neg e2]; exact h3, h4.keeps (fun k hk => ⟨hk, rfl⟩) rfl (fun j hj => ⟨?_, rfl⟩)⟩
      rw [if_neg (fun e3 => (by subst e3; have := (g.hid _ _ hj).2.2.1; rw [hk] at this; cases this))]
      exact hj
  · by_cases e1 : j = k
    · subst e1
      rw [if_pos rfl] at hj
      injection hj with hj; subst hj
      exact ⟨k1, k2, by rw [Heap.put_none]; exact ⟨hkr, Heap.del_same _ _⟩, T, e, bs, Heap.put_same _ _ _⟩
    · rw [if_neg e1] at hj
      obtain ⟨h1, h2, h3, T', e', bs', h4⟩ := g.hid j q hj
      have hqr : q ≠ r := fun e3 => (by subst e3; rw [hr] at h4; cases h4)
      have hqk : q ≠ k := fun e3 => (by subst e3; rw [hk] at h4; cases h4)
      refine ⟨h1, h2, ?_, T', e', bs', by rw [Heap.put_ne _ _ hqr, Heap.del_ne _ hqk]; exact h4⟩
      rw [Heap.put_none, Heap.del_ne _ e1]
      exact ⟨fun e3 => (by subst e3; rw [hr] at h3; cases h3), h3⟩
  · have e1 : j ≠ k := fun e3 => (by subst e3; rw [hk] at a; cases a)
    rw [Heap.put_none, Heap.del_ne _ e1]
    exact ⟨fun e3 => (by subst e3; rw [hr] at a; cases a), a⟩
  · rw [if_neg (fun e3 => (by subst e3; rw [hk] at a; cases a))]; exact b
theorem Good.fold_nil (g : Good E w I G h) {r : Nat} {T e : TypeId} {p : Option Addr} (hp : p = none ∨ p = some ⟨r, 0, none⟩) (hr : h r = some (.cells T 2 [.val (.pointer p), .val (.slice none 0 0)])) :
    Good E w I G (h.put r (.bld T e [])) ∧ Stp E.mono w I G h w I G (h.put r (.bld T e [])) := by
  obtain ⟨r1, r2, r3, us, rest, hcell, hrl, hsz⟩ := g.own r _ hr
  rw [RL_two hrl hsz] at hcell
  refine ⟨⟨fun q o hq => ?_, fun j q hj => ?_, g.imm, g.glob, g.inv⟩, ⟨rfl, rfl, rfl, Nat.le_refl _, fun j _ a b => ⟨rfl, ?_, b⟩, fun _ h => h, fun _ _ _ _ h => h, fun _ => Nat.le_refl _⟩⟩
  · by_cases e1 : q = r
    · subst e1
      rw [Heap.put_same] at hq
      injection hq with hq; subst hq
      exact ⟨r1, r2, r3, .inl ⟨rfl, p, hp, hcell⟩⟩
    · rw [Heap.put_ne _ _ e1] at hq
      exact g.own q o hq
  · obtain ⟨h1, h2, h3, T', e', bs', h4⟩ := g.hid j q hj
    have hqr : q ≠ r := fun e3 => (by subst e3; rw [hr] at h4; cases h4)
    exact ⟨h1, h2, by rw [Heap.put_none]; exact ⟨fun e3 => (by subst e3; rw [hr] at h3; cases h3), h3⟩, T', e', bs', by rw [Heap.put_ne _ _ hqr]; exact h4⟩
  · rw [Heap.put_none]
    exact ⟨fun e3 => (by subst e3; rw [hr] at a; cases a), a⟩

theorem SW.turn {c : Code} {Q : Exit → AS → Prop} {a : AS} {h' : Heap} (hg : ∀ w I G, Good E w I G a.h → ∃ G', Good E w I G' h' ∧ Stp E.mono w I G a.h w I G' h') (k : SW E c Q { a with h := h' }) : SW E c Q a := by
  intro w I G act g r
  obtain ⟨G', g', s⟩ := hg w I G g
  exact wp_mono (k w I G' act g' ⟨r.defers, r.size, r.slot⟩) fun _ _ _ p => p.trans s
theorem SW.unfold {c : Code} {Q : Exit → AS → Prop} {a : AS} {r : Nat} {T e : TypeId} {bs : List UInt8} (hr : a.h r = some (.bld T e bs))
    (k1 : bs = [] → ∀ p, (p = none ∨ p = some ⟨r, 0, none⟩) → SW E c Q { a with h := a.h.put r (.cells T 2 [.val (.pointer p), .val (.slice none 0 0)]) })
    (k2 : ∀ k cap, a.h k = none → k ≠ r → bs.length ≤ cap → cap ≤ maxLen → 0 < cap → SW E c Q { a with h := (a.h.put r (.cells T 2 [.val (.pointer (some ⟨r, 0, none⟩)), .val (.slice (some ⟨k, 0, none⟩) bs.length cap)])).put k (.cells e cap (bytePVs bs)) }) : SW E c Q a := by
  intro w I G act g r'
  rcases g.unfold hr with ⟨hb, p, G', hp, g', s⟩ | ⟨k, cap, G', h1, h2, h3, h4, h5, g', s⟩
  · exact wp_mono (k1 hb p hp w I G' act g' ⟨r'.defers, r'.size, r'.slot⟩) fun _ _ _ p => p.trans s
  · exact wp_mono (k2 k cap h1 h2 h3 h4 h5 w I G' act g' ⟨r'.defers, r'.size, r'.slot⟩) fun _ _ _ p => p.trans s
theorem SW.fold_row {c : Code} {Q : Exit → AS → Prop} {a : AS} {r k cap : Nat} {T e : TypeId} {bs : List UInt8} (hr : a.h r = some (.cells T 2 [.val (.pointer (some ⟨r, 0, none⟩)), .val (.slice (some ⟨k, 0, none⟩) bs.length cap)])) (hk : a.h k = some (.cells e cap (bytePVs bs))) (hkr : k ≠ r) (hcm : cap ≤ maxLen) (hc0 : 0 < cap)
    (kk : SW E c Q { a with h := (a.h.del k).put r (.bld T e bs) }) : SW E c Q a :=
  SW.turn (fun _ _ _ g => g.fold_row hr hk hkr hcm hc0) kk
theorem SW.fold_nil {c : Code} {Q : Exit → AS → Prop} {a : AS} {r : Nat} {T e : TypeId} {p : Option Addr} (hp : p = none ∨ p = some ⟨r, 0, none⟩) (hr : a.h r = some (.cells T 2 [.val (.pointer p), .val (.slice none 0 0)]))
    (kk : SW E c Q { a with h := a.h.put r (.bld T e []) }) : SW E c Q a :=
  SW.turn (fun _ _ G g => ⟨G, g.fold_nil hp hr⟩) kk

theorem Own.at {h0 H : Heap} {r : Nat} {X : AObj} {e : TypeId} {sz : Nat} {xs : List (List PV)} {v : PV} (o : Own (h0.put r X) e sz xs v H) : H r = some X := by
  rcases o with ⟨h1, h2, h3⟩ | ⟨k, cap, h1, h2, h3, h4, h5, h6⟩
  · rw [h3]; exact Heap.put_same _ _ _
  · rw [Heap.put_none] at h4
    rw [h5, Heap.put_ne _ _ (fun e => h4.1 e.symm)]
    exact Heap.put_same _ _ _
theorem Heap.get_put (h : Heap) (r : Nat) (o : AObj) (k : Nat) : (h.put r o) k = if k = r then some o else h k := rfl
theorem beq_tf : (true == false) = false := rfl
theorem beq_ft : (false == true) = false := rfl
theorem HTo.del (h : Heap) (r : Nat) : HTo E h (h.del r) := HSub.to fun k => by
  by_cases e : k = r
  · subst e; exact .inl (Heap.del_same _ _)
  · exact .inr (Heap.del_ne _ e)
theorem w64 {n : Int} (h1 : -9223372036854775808 ≤ n) (h2 : n < 9223372036854775808) : IntKind.i64.wrap n = n := by rw [IntKind.wrap_i64]; omega
def hasAll (a : AS) : List (Nat × PV) → Prop
  | [] => True
  | x :: l => a.get x.1 = x.2 ∧ hasAll a l
theorem hasAll_look {a : AS} : ∀ {l : List (Nat × PV)}, hasAll a l → ∀ {t : Nat} {v : PV}, look l t = some v → a.get t = v
  | [], _, _, _, h => by simp [look] at h
  | x :: l, ⟨h1, h2⟩, t, v, h => by
    simp only [look] at h
    split at h
    · rename_i e
      injection h with h
      rw [← e, h1, h]
    · exact hasAll_look h2 h
def Has (a : AS) (n : Nat) (l : List (Nat × PV)) (h : Heap) : Prop := a.n = n ∧ a.h = h ∧ hasAll a l
theorem SW.norm {c : Code} {Q : Exit → AS → Prop} {a : AS} {n : Nat} {l : List (Nat × PV)} {h : Heap} (ha : Has a n l h) (k : SW E c Q ⟨n, l, h⟩) : SW E c Q a := by
  refine SW.weaken ⟨n, l, h⟩ ha.1.symm ha.2.1.symm (fun t => ?_) k
  show (look l t).getD .any = _ ∨ (look l t).getD .any = _
  cases e : look l t with
  | none => exact .inr rfl
  | some v => exact .inl (hasAll_look ha.2.2 e).symm
theorem SW.loopK {β : Type} {c : Code} {Q : Exit → AS → Prop} {a : AS} (n : Nat) (l : β → List (Nat × PV)) (H : β → Heap) (Inv : β → Prop) (m : β → Nat) (b0 : β) (h0 : Inv b0) (start : Has a n (l b0) (H b0))
    (round : ∀ b, Inv b → SW E c (thenQ (fun a' => ∃ b', Inv b' ∧ m b' < m b ∧ Has a' n (l b') (H b')) Q) ⟨n, l b, H b⟩) : SW E (.loop c) Q a := by
  refine SW.loop (fun k a => ∃ b, Inv b ∧ m b = k ∧ Has a n (l b) (H b)) (m b0) ⟨b0, h0, rfl, start⟩ ?_
  rintro k a ⟨b, hb, rfl, ha⟩
  refine SW.norm ha ((round b hb).mono fun e a' q => ?_)
  cases e with
  | normal =>
    obtain ⟨b', h1, h2, h3⟩ := q
    exact ⟨m b', h2, b', h1, rfl, h3⟩
  | _ => exact q
def u8of (z : Int) : UInt8 := UInt8.ofNat (z % 256).toNat
theorem wrap_byte (z : Int) : IntKind.u8.wrap z = ((u8of z).toNat : Int) := by
  rw [IntKind.wrap_u8, u8of, UInt8.toNat_ofNat']
  omega
theorem byte_lt_T (b : UInt8) : ((b.toNat : Nat) : Int) < 256 ↔ True := by
  have := b.toNat_lt
  simp only [iff_true]; omega
end
end Go.Proofs.YtpgnfbdkhakbdaaGreatDoor.Lift

namespace Go.Proofs.YtpgnfbdkhakbdaaGreatDoor.Lift
open Go Go.RowKit

def noHeap : Heap := fun _ => none
theorem SCalls.below {E : Env} {f : FuncId} {args : List PV} {v : Value} {p : PV} (hc : SCalls E f args noHeap (Ret p noHeap)) (hp : ∀ w I u, R w I p u → u = v) (hgl : E.gl = []) (w : World) (I : Nat → Prop) (hI : ∀ k, I k → k < w.heap.size) (vs : List Value) (hr : R0s w I args vs) (hwi : E.winv w I) :
    Calls E.P f vs.toArray w (fun e w' => e = .returned v ∧ Below w.heap.size w w') := by
  have g : Good E w I (fun _ => none) noHeap := Good.mk (fun r o h => nomatch h) (fun k r h => nomatch h) hI (fun g cs h => by rw [hgl] at h; exact nomatch h) hwi
  refine (hc.2 w I (fun _ => none) vs g hr).mono ?_
  rintro e w' ⟨I', G', h', g', s, q⟩
  cases e with
  | returned u =>
    obtain ⟨p', hp', q1, q2⟩ := q
    injection q1 with q1
    subst q1
    exact ⟨by rw [hp _ _ _ hp'], ⟨s.os, s.tape, s.output, s.size, fun k hk => (s.keep k hk rfl rfl).1⟩⟩
  | panicked c => obtain ⟨q1, _⟩ := q; cases q1
  | outgrown => exact q.elim
end Go.Proofs.YtpgnfbdkhakbdaaGreatDoor.Lift

namespace Go.Proofs.YtpgnfbdkhakbdaaGreatDoor.Lift
open Go Go.RowKit

section
variable {E : Env} {w w1 w' : World} {I I1 I' : Nat → Prop} {G G1 G' : Nat → Option Nat} {h : Heap}
theorem SW.turnTo {c : Code} {Q : Exit → AS → Prop} {a : AS} {h' : Heap} (ht : HTo E a.h h') (k : SW E c Q { a with h := h' }) : SW E c Q a := by
  intro w I G act g r
  obtain ⟨I', G', g', s⟩ := ht w I G g
  have r1 := r.keeps (s.keeps g)
  exact wp_mono (k w I' G' act g' ⟨r1.defers, r1.size, r1.slot⟩) fun _ _ _ p => p.trans s
end
end Go.Proofs.YtpgnfbdkhakbdaaGreatDoor.Lift

namespace Go.Proofs.YtpgnfbdkhakbdaaGreatDoor.Lift
open Go

theorem block_lt {w : World} {a : Addr} {v : Value} (h : w.cell? a = some v) : a.block < w.heap.size := by
  unfold World.cell? at h
  split at h
  · rename_i hb; exact (Array.getElem?_eq_some_iff.1 hb).1
  · cases h
end Go.Proofs.YtpgnfbdkhakbdaaGreatDoor.Lift

namespace Go.Proofs.YtpgnfbdkhakbdaaGreatDoor.Lift
open Go
variable {E : Env}

theorem hasAll_heap {a : AS} {H : Heap} : ∀ (l : List (Nat × PV)), hasAll a l → hasAll { a with h := H } l
  | [], _ => trivial
  | (t, v) :: l, h => by
    have h1 : a.get t = v ∧ hasAll a l := h
    exact (⟨h1.1, hasAll_heap l h1.2⟩ : _ ∧ _)
theorem SW.enter {c : Code} {Q : Exit → AS → Prop} {a : AS} {n : Nat} {l : List (Nat × PV)} {H : Heap} (hn : a.n = n) (ht : HTo E a.h H) (hs : hasAll a l) (k : SW E c Q ⟨n, l, H⟩) : SW E c Q a :=
  SW.turnTo ht (SW.norm (n := n) (l := l) (h := H) ⟨hn, rfl, hasAll_heap l hs⟩ k)
def Meet (E : Env) (n : Nat) (l : List (Nat × PV)) (H : Heap) (a : AS) : Prop := a.n = n ∧ HTo E a.h H ∧ hasAll a l
end Go.Proofs.YtpgnfbdkhakbdaaGreatDoor.Lift
