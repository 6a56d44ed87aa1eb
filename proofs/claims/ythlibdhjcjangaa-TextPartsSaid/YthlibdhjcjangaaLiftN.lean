/- Steps in bulk: what an operation yields, as a function; functions whose contract is known. -/
import Derived.Test.YthlibdhjcjangaaLiftM
import Derived.LaidEqlPtr
set_option linter.unusedSimpArgs false
set_option linter.unusedVariables false
namespace Go.Proofs.Ythlibdhjcjangaa.Lift
open Go Go.RowKit

/-- It hands this back, and leaves what is owned as it was. -/
def Ret (v : PV) (h : Heap) : SEnd → Heap → Prop := fun e h' => e = .ret v ∧ h' = h
/-- A function without a body, which the model answers itself. -/
def XCalls (E : Env) (f : FuncId) (args : List PV) (h : Heap) (v : PV) : Prop :=
  ∀ w I G vs, Good E w I G h → R0s w I args vs → ∃ u, (callFunc f vs.toArray).run E.P w = .ok (.value u) w ∧ R w I v u
/-- A call of a function of either kind hands back a value. -/
def FCalls (E : Env) (f : FuncId) (args : List PV) (h : Heap) (v : PV) : Prop := SCalls E f args h (Ret v h) ∨ XCalls E f args h v
/-- A function whose answer is known. -/
structure SpecE (E : Env) where
  f : FuncId
  s : List PV → Prop × PV
  ok : ∀ args h, (s args).1 → FCalls E f args h (s args).2
abbrev Specs (E : Env) := List (SpecE E)
def PBad : Prop × PV := (False, .any)
def Specs.at {E : Env} (S : Specs E) (f : FuncId) (args : List PV) : Prop × PV :=
  match S with
  | [] => PBad
  | e :: l => if e.f = f then e.s args else Specs.at l f args
theorem Specs.ok {E : Env} : ∀ {S : Specs E} {f : FuncId} {args : List PV} {h : Heap}, (S.at f args).1 → FCalls E f args h (S.at f args).2
  | [], _, _, _, hc => hc.elim
  | e :: l, f, args, h, hc => by
    simp only [Specs.at] at hc ⊢
    split
    · rename_i he
      rw [if_pos he] at hc
      subst he
      exact e.ok args h hc
    · rename_i he
      rw [if_neg he] at hc
      exact Specs.ok hc
def Specs.has {E : Env} (S : Specs E) (f : FuncId) : Bool :=
  match S with
  | [] => false
  | e :: l => if e.f = f then true else Specs.has l f

def ppick (b : Bool) (x y : PV) : PV := match b with | true => x | false => y
theorem ppick_bool (b x y : Bool) : ppick b (.bool x) (.bool y) = .bool (if b then x else y) := by cases b <;> rfl
theorem ppick_true (x y : PV) : ppick true x y = x := rfl
theorem ppick_false (x y : PV) : ppick false x y = y := rfl

def pbinI (op : BinOp) (k k' : IntKind) (a b : Int) : Prop × PV :=
  match op with
  | .shl => (0 ≤ b, .int k (k.wrap (a * 2 ^ (min b.toNat k.bits))))
  | .shr => (0 ≤ b, .int k (a.fdiv (2 ^ (min b.toNat k.bits))))
  | .add => (k = k', .int k (k.wrap (a + b)))
  | .sub => (k = k', .int k (k.wrap (a - b)))
  | .mul => (k = k', .int k (k.wrap (a * b)))
  | .quo => (k = k' ∧ b ≠ 0, .int k (k.wrap (a.tdiv b)))
  | .rem => (k = k' ∧ b ≠ 0, .int k (a.tmod b))
  | .and => (k = k', .int k (bitsOp .and k a b))
  | .or => (k = k', .int k (bitsOp .or k a b))
  | .xor => (k = k', .int k (bitsOp .xor k a b))
  | .andNot => (k = k', .int k (bitsOp .andNot k a b))
  | .eql => (k = k', .bool (a == b))
  | .neq => (k = k', .bool (a != b))
  | .lss => (k = k', .bool (decide (a < b)))
  | .leq => (k = k', .bool (decide (a ≤ b)))
  | .gtr => (k = k', .bool (decide (b < a)))
  | .geq => (k = k', .bool (decide (b ≤ a)))
def pbinS (op : BinOp) (a b : List UInt8) : Prop × PV :=
  match op with
  | .add => (a.length + b.length ≤ 9223372036854775807, .str (a ++ b))
  | .eql => (True, .bool (a == b))
  | .neq => (True, .bool (!(a == b)))
  | .lss => (True, .bool (lessB a b))
  | .leq => (True, .bool (lessB a b || a == b))
  | .gtr => (True, .bool (!(lessB a b || a == b)))
  | .geq => (True, .bool (!lessB a b))
  | _ => PBad
/-- The same address twice. -/
def psame (E : Env) (t : TypeId) (x y : PV) : Prop :=
  match E.ty t with
  | some i => match i.k with
    | .ptr e => match E.ty e with
      | some _ => match x with
        | .val (.pointer (some a)) => match y with
          | .val (.pointer (some b)) => a = b
          | _ => False
        | _ => False
      | none => False
    | _ => False
  | none => False
def pbinP (E : Env) (op : BinOp) (t : TypeId) (x y : PV) : Prop × PV :=
  match x with
  | .int k a => match y with
    | .int k' b => pbinI op k k' a b
    | _ => PBad
  | .str a => match y with
    | .str b => pbinS op a b
    | _ => PBad
  | x => match op with
    | .eql => match peq E t x y with
      | some b => (True, .bool b)
      | none => (psame E t x y, .bool true)
    | .neq => match peq E t x y with
      | some b => (True, .bool (!b))
      | none => (psame E t x y, .bool false)
    | _ => PBad
section
variable {E : Env} {w w1 w' : World} {I I1 I' : Nat → Prop} {G G1 G' : Nat → Option Nat} {h : Heap}
theorem pbinI_ok {op : BinOp} {k k' : IntKind} {a b : Int} (h : (pbinI op k k' a b).1) : pbin op (.int k a) (.int k' b) = some (pbinI op k k' a b).2 := by
  cases op <;> simp [pbinI] at h <;> simp [pbin, pbinI, h]
theorem pbinS_ok {op : BinOp} {a b : List UInt8} (h : (pbinS op a b).1) : pbin op (.str a) (.str b) = some (pbinS op a b).2 := by
  cases op <;> simp [pbinS, PBad] at h <;> simp [pbin, pbinS, h]
theorem psame_ok {t : TypeId} {a : AS} {x y : Operand} (ty : TypeId) (hp : psame E t (a.eval E x) (a.eval E y)) : Yld E a (.binOp .eql t x y ty) (.bool true) ∧ Yld E a (.binOp .neq t x y ty) (.bool false) := by
  unfold psame at hp
  cases ht : E.ty t with
  | none => rw [ht] at hp; exact hp.elim
  | some i =>
    rw [ht] at hp
    dsimp only at hp
    cases hk : i.k <;> rw [hk] at hp <;> try exact hp.elim
    rename_i e
    dsimp only at hp
    cases he : E.ty e with
    | none => rw [he] at hp; exact hp.elim
    | some ie =>
      rw [he] at hp
      dsimp only at hp
      split at hp
      · rename_i ad hx
        split at hp
        · rename_i bd hy
          subst hp
          have hd := ty_under ht
          rw [hk] at hd
          obtain ⟨inf, z, hi, _⟩ := ty_info he
          have heq : ∀ (w : World), (Op.equal t (.pointer (some ad)) (.pointer (some ad))).run E.P w = .ok true w := fun w => by
            obtain ⟨d, eqn⟩ : ∃ d, ∀ u1 u2, Op.equal t u1 u2 = Op.equalIn (d + 1) t u1 u2 := ⟨9999, fun _ _ => rfl⟩
            rw [eqn]
            simp [Op.equalIn, run_underlying hd, sizeOf, typeInfo, hi, run_sameAddr_same]
          constructor
          · intro w I G act o ho g r
            have h1 := r.eval g x
            rw [hx] at h1
            have h1 := R_val h1
            have h2 := r.eval g y
            rw [hy] at h2
            have h2 := R_val h2
            refine ⟨.bool true, ?_, rfl⟩
            simp only [execOp, ho, h1, h2, Sem.run_bind, run_eqGuard (a := .pointer (some ad)) (h1 := fun cs => by simp) (h2 := by simp), Result.andThen_ok, binOp, heq, Sem.run_pure]
          · intro w I G act o ho g r
            have h1 := r.eval g x
            rw [hx] at h1
            have h1 := R_val h1
            have h2 := r.eval g y
            rw [hy] at h2
            have h2 := R_val h2
            refine ⟨.bool false, ?_, rfl⟩
            simp only [execOp, ho, h1, h2, Sem.run_bind, run_eqGuard (a := .pointer (some ad)) (h1 := fun cs => by simp) (h2 := by simp), Result.andThen_ok, binOp, heq, Sem.run_pure]
            rfl
        · exact hp.elim
      · exact hp.elim
theorem pbinP_ok {op : BinOp} {t : TypeId} {a : AS} {x y : Operand} (ty : TypeId) (hp : (pbinP E op t (a.eval E x) (a.eval E y)).1) : Yld E a (.binOp op t x y ty) (pbinP E op t (a.eval E x) (a.eval E y)).2 := by
  unfold pbinP at hp ⊢
  split
  · rename_i k n hx
    rw [hx] at hp
    dsimp only at hp ⊢
    split
    · rename_i k' n' hy
      rw [hy] at hp
      exact Yld.binOp op t x y ty (by rw [hx, hy]; exact pbinI_ok hp)
    · rename_i hne
      split at hp
      · rename_i k' n' hy; exact absurd hy (hne _ _)
      · exact hp.elim
  · rename_i l hx
    rw [hx] at hp
    dsimp only at hp ⊢
    split
    · rename_i l' hy
      rw [hy] at hp
      exact Yld.binOp op t x y ty (by rw [hx, hy]; exact pbinS_ok hp)
    · rename_i hne
      split at hp
      · rename_i l' hy; exact absurd hy (hne _)
      · exact hp.elim
  · rename_i h1 h2
    have e : ∀ {α : Type} (A : IntKind → Int → α) (B : List UInt8 → α) (C : PV → α), (match a.eval E x with | .int k n => A k n | .str l => B l | x => C x) = C (a.eval E x) := by
      intro α A B C
      split
      · rename_i hh; exact absurd hh (h1 _ _)
      · rename_i hh; exact absurd hh (h2 _)
      · rfl
    rw [e] at hp
    cases op
    case eql =>
      dsimp only at hp ⊢
      cases hq : peq E t (a.eval E x) (a.eval E y) with
      | none => rw [hq] at hp; exact (psame_ok ty hp).1
      | some b => exact Yld.eql t x y ty hq
    case neq =>
      dsimp only at hp ⊢
      cases hq : peq E t (a.eval E x) (a.eval E y) with
      | none => rw [hq] at hp; exact (psame_ok ty hp).2
      | some b => exact Yld.neq t x y ty hq
    all_goals exact hp.elim

/-- Bytes and characters out of elements. -/
def unB : List (List PV) → Option (List UInt8)
  | [] => some []
  | [.int .u8 n] :: xs => match unB xs with
    | some l => if 0 ≤ n ∧ n < 256 then some (UInt8.ofNat n.toNat :: l) else none
    | none => none
  | _ => none
theorem unB_spec : ∀ {xs : List (List PV)} {l : List UInt8}, unB xs = some l → xs = l.map fun b => [PV.int .u8 b.toNat]
  | [], l, h => by simp only [unB, Option.some.injEq] at h; subst h; rfl
  | x :: xs, l, h => by
    unfold unB at h
    split at h
    · rename_i he; cases he
    · rename_i n xs' he
      injection he with he1 he2
      subst he1; subst he2
      split at h
      · rename_i l' hl
        split at h
        · rename_i hn
          injection h with h
          subst h
          rw [unB_spec hl]
          simp only [List.map_cons]
          congr 3
          have : (UInt8.ofNat n.toNat).toNat = n.toNat := by
            rw [UInt8.toNat_ofNat']; omega
          rw [this]; omega
        · cases h
      · cases h
    · cases h
theorem unB_map (l : List UInt8) : unB (l.map fun b => [PV.int .u8 b.toNat]) = some l := by
  induction l with
  | nil => rfl
  | cons b l ih =>
    simp only [List.map_cons, unB, ih]
    have := b.toNat_lt
    rw [if_pos ⟨by omega, by omega⟩]
    simp
def unR : List (List PV) → Option (List Int)
  | [] => some []
  | [.int .i32 n] :: xs => match unR xs with
    | some l => some (n :: l)
    | none => none
  | _ => none
theorem unR_spec : ∀ {xs : List (List PV)} {l : List Int}, unR xs = some l → xs = l.map fun n => [PV.int .i32 n]
  | [], l, h => by simp only [unR, Option.some.injEq] at h; subst h; rfl
  | x :: xs, l, h => by
    unfold unR at h
    split at h
    · rename_i he; cases he
    · rename_i n xs' he
      injection he with he1 he2
      subst he1; subst he2
      split at h
      · rename_i l' hl
        injection h with h
        subst h
        rw [unR_spec hl]
        rfl
      · cases h
    · cases h
theorem unR_map (l : List Int) : unR (l.map fun n => [PV.int .i32 n]) = some l := by
  induction l with
  | nil => rfl
  | cons b l ih => simp only [List.map_cons, unR, ih]

/-- A conversion. -/
def pconv (E : Env) (i j : TyI) (x : PV) : Prop × PV :=
  match x with
  | .int k' n => match j.k with
    | .int k => (True, .int k (k.wrap n))
    | .str => match i.k with
      | .int _ => (True, .str (encL n))
      | _ => PBad
    | _ => PBad
  | .list sz xs => match i.k, j.k with
    | .slice e, .str => match E.ty e with
      | some ie => match ie.k with
        | .int .u8 => match unB xs with
          | some l => (sz = 1, .str l)
          | none => PBad
        | .int .i32 => match unR xs with
          | some l => (sz = 1, .str (l.flatMap encL))
          | none => PBad
        | _ => PBad
      | none => PBad
    | _, _ => PBad
  | .str l => match i.k, j.k with
    | .str, .slice e => match E.ty e with
      | some ie => match ie.k with
        | .int .i32 => (l.length ≤ 70368744177664, .list 1 ((runesOf l).map fun n => [PV.int .i32 n]))
        | _ => PBad
      | none => PBad
    | _, _ => PBad
  | _ => PBad
theorem Yld.toW {a : AS} {op : Op} {v : PV} (h : Yld E a op v) : YldW E a op v := by
  intro w I G act o ho g r
  obtain ⟨u, hu, hv⟩ := h w I G act o ho g r
  exact ⟨u, w, I, hu, g, .refl .., hv⟩
theorem pconv_ok {a : AS} {s t : TypeId} {x : Operand} {i j : TyI} (hs : E.ty s = some i) (ht : E.ty t = some j) (hp : (pconv E i j (a.eval E x)).1) : YldW E a (.convert s t x) (pconv E i j (a.eval E x)).2 := by
  unfold pconv at hp ⊢
  cases hx : a.eval E x with
  | int k' n =>
    rw [hx] at hp
    dsimp only at hp ⊢
    cases hj : j.k <;> rw [hj] at hp <;> try dsimp only at hp ⊢ <;> try exact hp.elim
    case int k => exact (Yld.convert_int x hs ht hj hx).toW
    case str =>
      cases hi : i.k <;> rw [hi] at hp <;> try dsimp only at hp ⊢ <;> try exact hp.elim
      exact (Yld.convert_int_str x hs hi ht hj hx).toW
  | list sz xs =>
    rw [hx] at hp
    dsimp only at hp ⊢
    cases hi : i.k <;> rw [hi] at hp <;> try dsimp only at hp ⊢ <;> try exact hp.elim
    rename_i e
    cases hj : j.k <;> rw [hj] at hp <;> try dsimp only at hp ⊢ <;> try exact hp.elim
    cases he : E.ty e <;> rw [he] at hp <;> try dsimp only at hp ⊢ <;> try exact hp.elim
    rename_i ie
    cases hie : ie.k <;> rw [hie] at hp <;> try dsimp only at hp ⊢ <;> try exact hp.elim
    rename_i k
    cases k <;> try dsimp only at hp ⊢ <;> try exact hp.elim
    · cases hu : unR xs <;> rw [hu] at hp <;> try dsimp only at hp ⊢ <;> try exact hp.elim
      subst hp
      exact (Yld.convert_runes_str x hs hi he hie ht hj (by rw [hx, unR_spec hu])).toW
    · cases hu : unB xs <;> rw [hu] at hp <;> try dsimp only at hp ⊢ <;> try exact hp.elim
      subst hp
      exact (Yld.convert_bytes_str x hs hi he hie ht hj (by rw [hx, unB_spec hu])).toW
  | str l =>
    rw [hx] at hp
    dsimp only at hp ⊢
    cases hi : i.k <;> rw [hi] at hp <;> try dsimp only at hp ⊢ <;> try exact hp.elim
    cases hj : j.k <;> rw [hj] at hp <;> try dsimp only at hp ⊢ <;> try exact hp.elim
    rename_i e
    cases he : E.ty e <;> rw [he] at hp <;> try dsimp only at hp ⊢ <;> try exact hp.elim
    rename_i ie
    cases hie : ie.k <;> rw [hie] at hp <;> try dsimp only at hp ⊢ <;> try exact hp.elim
    rename_i k
    cases k <;> try dsimp only at hp ⊢ <;> try exact hp.elim
    exact YldW.convert_str_runes x hs hi ht hj he hie hx hp
  | _ => rw [hx] at hp; exact hp.elim
end
end Go.Proofs.Ythlibdhjcjangaa.Lift
