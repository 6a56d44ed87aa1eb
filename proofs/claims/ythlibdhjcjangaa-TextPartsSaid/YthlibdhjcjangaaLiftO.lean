/- Steps in bulk: the function of an operation, and that it is right. -/
import Derived.Test.YthlibdhjcjangaaLiftN
import Derived.Lib.UnsafeStr
import Derived.Lib.Builder
import Derived.Laws.Small
set_option linter.unusedSimpArgs false
set_option linter.unusedVariables false
namespace Go.Proofs.Ythlibdhjcjangaa.Lift
open Go Go.RowKit

def pfieldAddr (E : Env) (s : TypeId) (f : Nat) (x : PV) : Prop × PV :=
  match fieldOf E s f with
  | some (off, i) => match x with
    | .val (.pointer (some ⟨r, o, none⟩)) => (i.size ≠ 0, .val (.pointer (some ⟨r, o + off, none⟩)))
    | .elem cs => (i.size ≠ 0, .elem (cs.drop off))
    | _ => PBad
  | none => PBad
def pfield (E : Env) (s : TypeId) (f : Nat) (x : PV) : Prop × PV :=
  match fieldOf E s f with
  | some (off, i) => match x with
    | .agg cs => (okOne i = true ∧ off + i.size ≤ cs.length, valOf i.k.isAgg ((cs.drop off).take i.size))
    | _ => PBad
  | none => PBad
def pload (E : Env) (h : Heap) (t : TypeId) (x : PV) : Prop × PV :=
  match E.ty t with
  | some i => match x with
    | .elem cs => (okOne i = true ∧ i.size ≤ cs.length, valOf i.k.isAgg (cs.take i.size))
    | .val (.pointer (some ⟨r, o, none⟩)) => match h r with
      | some (.cells _ _ cs) => (okOne i = true ∧ o + i.size ≤ cs.length, valOf i.k.isAgg ((cs.drop o).take i.size))
      | _ => PBad
    | _ => PBad
  | none => PBad
def pindexAddr (E : Env) (t : TypeId) (x j : PV) : Prop × PV :=
  match E.ty t with
  | some i => match i.k with
    | .slice e => match E.ty e with
      | some ie => match x with
        | .list sz xs => match j with
          | .int _ n => (ie.size = sz ∧ sz ≠ 0 ∧ 0 ≤ n ∧ n.toNat < xs.length, .elem (xs.getD n.toNat []))
          | _ => PBad
        | .val (.slice (some ⟨r, o, none⟩) len _) => match j with
          | .int _ n => (0 ≤ n ∧ n < len, .val (.pointer (some ⟨r, o + n.toNat * ie.size, none⟩)))
          | _ => PBad
        | _ => PBad
      | none => PBad
    | .array len e => match E.ty e with
      | some ie => match x with
        | .val (.pointer (some ⟨r, o, none⟩)) => match j with
          | .int _ n => (0 ≤ n ∧ n < len, .val (.pointer (some ⟨r, o + n.toNat * ie.size, none⟩)))
          | _ => PBad
        | _ => PBad
      | none => PBad
    | _ => PBad
  | none => PBad
def pindex (E : Env) (t : TypeId) (x j : PV) : Prop × PV :=
  match E.ty t with
  | some i => match i.k with
    | .str => match x with
      | .str l => match j with
        | .int _ n => (0 ≤ n ∧ n.toNat < l.length, .int .u8 (l.getD n.toNat 0).toNat)
        | _ => PBad
      | _ => PBad
    | _ => PBad
  | none => PBad
def pB (ρ : Operand → PV) (x : Option Operand) (d : Nat) : Option Int :=
  match x with
  | none => some d
  | some x => match ρ x with
    | .int _ n => some n
    | _ => none
def pslice (E : Env) (ρ : Operand → PV) (t : TypeId) (x : PV) (lo hi : Option Operand) : Prop × PV :=
  match E.ty t with
  | some i => match x with
    | .str l => match i.k with
      | .str => match pB ρ lo 0 with
        | some L => match pB ρ hi l.length with
          | some H => (0 ≤ L ∧ L ≤ H ∧ H ≤ l.length, .str ((l.take H.toNat).drop L.toNat))
          | none => PBad
        | none => PBad
      | _ => PBad
    | .list sz xs => match i.k with
      | .slice e => match E.ty e with
        | some ie => match pB ρ lo 0 with
          | some L => match pB ρ hi xs.length with
            | some H => (ie.size = sz ∧ 0 ≤ L ∧ L ≤ H ∧ H ≤ xs.length, .list sz ((xs.take H.toNat).drop L.toNat))
            | none => PBad
          | none => PBad
        | none => PBad
      | _ => PBad
    | .val (.slice (some ⟨r, o, none⟩) n cp) => match i.k with
      | .slice e => match E.ty e with
        | some ie => match pB ρ lo 0 with
          | some L => match pB ρ hi n with
            | some H => (0 ≤ L ∧ L ≤ H ∧ H ≤ cp, .val (.slice (some ⟨r, o + (if cp = L.toNat then 0 else L.toNat * ie.size), none⟩) (H.toNat - L.toNat) (cp - L.toNat)))
            | none => PBad
          | none => PBad
        | none => PBad
      | _ => PBad
    | .val (.slice none 0 0) => match i.k with
      | .slice e => match E.ty e with
        | some _ => match pB ρ lo 0 with
          | some L => match pB ρ hi 0 with
            | some H => (0 ≤ L ∧ L ≤ H ∧ H ≤ 0, .val (.slice none 0 0))
            | none => PBad
          | none => PBad
        | none => PBad
      | _ => PBad
    | _ => PBad
  | none => PBad
def chunk (sz : Nat) : Nat → List PV → List (List PV)
  | 0, _ => []
  | n + 1, cs => cs.take sz :: chunk sz n (cs.drop sz)
theorem chunk_spec (sz : Nat) : ∀ (n : Nat) (cs : List PV), cs.length = n * sz → cs = (chunk sz n cs).flatten ∧ (∀ x ∈ chunk sz n cs, x.length = sz) ∧ (chunk sz n cs).length = n
  | 0, cs, h => by
    have : cs = [] := List.length_eq_zero_iff.1 (by omega)
    subst this
    simp [chunk]
  | n + 1, cs, h => by
    have h1 : cs.length = n * sz + sz := by rw [h, Nat.add_mul, Nat.one_mul]
    obtain ⟨e1, e2, e3⟩ := chunk_spec sz n (cs.drop sz) (by rw [List.length_drop]; omega)
    refine ⟨?_, ?_, by simp only [chunk, List.length_cons, e3]⟩
    · simp only [chunk, List.flatten_cons, ← e1, List.take_append_drop]
    · intro x hx
      simp only [chunk, List.mem_cons] at hx
      rcases hx with rfl | hx
      · rw [List.length_take]; omega
      · exact e2 x hx
def pbuild (E : Env) (t : TypeId) (parts : List (Nat × PV)) : Prop × PV :=
  match E.ty t with
  | some i => match i.k with
    | .struct fs => match pfill (placeOf E fs) (i.zero.map ofVal) parts with
      | some cs => ((fs.all fun x => (E.ty x.2).isSome) = true ∧ okZero i = true ∧ known parts = true, .agg cs)
      | none => PBad
    | _ => PBad
  | none => PBad
def pbuildSlice (E : Env) (t : TypeId) (len : Nat) (parts : List (Nat × PV)) : Prop × PV :=
  match E.ty t with
  | some i => match i.k with
    | .slice e => match E.ty e with
      | some ie => match pfill (fun i => some (i * ie.size, ie.size)) (List.replicate len (ie.zero.map ofVal)).flatten parts with
        | some cs => (len * ie.size ≤ 16777216 ∧ len ≤ 16777216 ∧ ie.zero.length = ie.size ∧ okZero ie = true ∧ known parts = true ∧ cs.length = len * ie.size, .list ie.size (chunk ie.size len cs))
        | none => PBad
      | none => PBad
    | _ => PBad
  | none => PBad
def unV : PV → Option Value
  | .int k n => some (.int k n)
  | .bool b => some (.bool b)
  | .str l => some (.string ⟨l.toArray⟩)
  | .val (.pointer p) => some (.pointer p)
  | .val (.slice x y z) => some (.slice x y z)
  | .val (.map m) => some (.map m)
  | .val (.func x y z) => some (.func x y z)
  | .val .nilFunc => some .nilFunc
  | .val .nilIface => some .nilIface
  | _ => none
theorem unV_spec {x : PV} {v : Value} (h : unV x = some v) : x = ofVal v ∧ v.oneCell' = true ∧ ∀ t z, v ≠ .iface t z := by
  unfold unV at h
  split at h <;> first | (cases h; done) | (injection h with h; subst h; simp [ofVal, Value.oneCell'])
def unVs : List PV → Option (List Value)
  | [] => some []
  | x :: xs => match unV x with
    | some v => match unVs xs with
      | some vs => some (v :: vs)
      | none => none
    | none => none
theorem unVs_spec : ∀ {xs : List PV} {vs : List Value}, unVs xs = some vs → xs = vs.map ofVal ∧ vs.all Value.oneCell' = true ∧ ∀ v ∈ vs, ∀ t z, v ≠ .iface t z
  | [], vs, h => by simp only [unVs, Option.some.injEq] at h; subst h; simp
  | x :: xs, vs, h => by
    simp only [unVs] at h
    split at h
    · rename_i v hv
      split at h
      · rename_i vs' hvs
        injection h with h
        subst h
        obtain ⟨h1, h2, h3⟩ := unV_spec hv
        obtain ⟨k1, k2, k3⟩ := unVs_spec hvs
        refine ⟨by rw [h1, k1]; rfl, by simp [h2, k2], fun u hu => ?_⟩
        rcases List.mem_cons.1 hu with rfl | hu
        · exact h3
        · exact k3 u hu
      · cases h
    · cases h
def pmakeIface (E : Env) (t : TypeId) (x : PV) : Prop × PV :=
  match E.ty t with
  | some i => match x with
    | .agg cs => ((match i.k with | .iface => false | _ => true) = true, .iface t true cs)
    | .any => PBad
    | .tuple _ => PBad
    | x => ((match i.k with | .iface => false | _ => true) = true, .iface t false [x])
  | none => PBad
def pcall (E : Env) (S : Specs E) (ρ : Operand → PV) (c : Call) : Prop × PV :=
  match c.callee with
  | .builtin .len => match c.args.toList, c.argTypes.toList with
    | [x], [t] => match E.ty t with
      | some i => match plen (ρ x) with
        | some n => (c.args = #[x] ∧ c.argTypes = #[t] ∧ okLen i.k (ρ x) = true, .int .i64 n)
        | none => PBad
      | none => PBad
    | _, _ => PBad
  | .builtin .cap => match c.args.toList with
    | [x] => match c.argTypes.toList with
      | [t] => match E.ty t with
        | some i => match i.k with
          | .slice _ => match ρ x with
            | .val (.slice _ _ cp) => (c.args = #[x] ∧ c.argTypes = #[t], .int .i64 cp)
            | _ => PBad
          | _ => PBad
        | none => PBad
      | _ => PBad
    | _ => PBad
  | .builtin .min => match c.args.toList with
    | [x, y] => match ρ x with
      | .int k a => match ρ y with
        | .int k' b => (c.args = #[x, y] ∧ k = k', .int k (if b < a then b else a))
        | _ => PBad
      | _ => PBad
    | _ => PBad
  | .builtin .max => match c.args.toList with
    | [x, y] => match ρ x with
      | .int k a => match ρ y with
        | .int k' b => (c.args = #[x, y] ∧ k = k', .int k (if a < b then b else a))
        | _ => PBad
      | _ => PBad
    | _ => PBad
  | .builtin .unsafeSliceData => match c.args.toList with
    | [x] => match ρ x with
      | .val (.slice none _ _) => (c.args = #[x], .val (.pointer none))
      | .val (.slice (some ⟨r, o, none⟩) _ cp) => (c.args = #[x] ∧ cp ≠ 0, .val (.pointer (some ⟨r, o, none⟩)))
      | _ => PBad
    | _ => PBad
  | .value (.func f) => ((c.args.toList.all fun x => okArg (ρ x)) = true ∧ (S.at f (c.args.toList.map ρ)).1, (S.at f (c.args.toList.map ρ)).2)
  | _ => PBad
/-- A conversion of an address, to or from one without a type; or of another value. -/
def pconvH (E : Env) (h : Heap) (i j : TyI) (x : PV) : Prop × PV :=
  match x with
  | .val (.pointer (some ⟨r0, o0, none⟩)) => match h r0 with
    | some (.cells e size _) => match i.k with
      | .ptr T => match j.k with
        | .uptr => match E.ty T with
          | some iT => (iT.size ≠ 0 ∧ o0 < size, .val (.pointer (some ⟨r0, o0, none⟩)))
          | none => PBad
        | _ => PBad
      | .uptr => match j.k with
        | .ptr u => match E.ty u with
          | some _ => (liesAt E.P E.P.depth e (size / E.P.cellsOf e) o0 u 1 = true, .val (.pointer (some ⟨r0, o0, none⟩)))
          | none => PBad
        | _ => PBad
      | _ => PBad
    | _ => PBad
  | x => pconv E i j x
/-- What an operation yields, if what it asks holds. -/
def px (E : Env) (S : Specs E) (ρ : Operand → PV) (h : Heap) : Op → Prop × PV
  | .move x => (True, ρ x)
  | .assign x => (True, ρ x)
  | .pick c x y => match ρ c with
    | .bool b => (True, ppick b (ρ x) (ρ y))
    | _ => PBad
  | .binOp op t x y _ => pbinP E op t (ρ x) (ρ y)
  | .unOp op _ x => match pun op (ρ x) with
    | some v => (True, v)
    | none => PBad
  | .nilCheck x => match ρ x with
    | .val (.pointer (some ad)) => (True, .val (.pointer (some ad)))
    | .elem cs => (True, .elem cs)
    | _ => PBad
  | .convert s t x => match E.ty s with
    | some i => match E.ty t with
      | some j => pconvH E h i j (ρ x)
      | none => PBad
    | none => PBad
  | .makeInterface t x => pmakeIface E t (ρ x)
  | .makeFunc fn first caps => match unVs (caps.toList.map ρ) with
    | some vs => (first = #[], .val (.func fn #[] vs.toArray))
    | none => PBad
  | .fieldAddr s x f => pfieldAddr E s f (ρ x)
  | .field s x f => pfield E s f (ρ x)
  | .load t x => pload E h t (ρ x)
  | .indexAddr t x j => pindexAddr E t (ρ x) (ρ j)
  | .index t x j => pindex E t (ρ x) (ρ j)
  | .slice t x lo hi m => match m with
    | none => pslice E ρ t (ρ x) lo hi
    | some _ => PBad
  | .extract x j => match ρ x with
    | .tuple vs => match vs[j]? with
      | some v => (True, v)
      | none => PBad
    | _ => PBad
  | .build t parts => pbuild E t (parts.toList.map fun x => (x.1, ρ x.2))
  | .buildSlice t n parts => pbuildSlice E t n (parts.toList.map fun x => (x.1, ρ x.2))
  | .call c => pcall E S ρ c
  | _ => PBad

section
variable {E : Env} {S : Specs E} {w w1 w' : World} {I I1 I' : Nat → Prop} {G G1 G' : Nat → Option Nat} {h : Heap}

/-- An operation yields a value, by whatever road, and leaves what is owned. -/
def YldC (E : Env) (a : AS) (op : Op) (v : PV) : Prop :=
  ∀ w I G act (o : Oper), o.op = op → Good E w I G a.h → RS w I a act → ∀ (K : Act → World → Prop) (Q : Exit → Act → World → Prop),
    (∀ u w' I' G', Good E w' I' G' a.h → Stp w I G a.h w' I' G' a.h → R w' I' v u → K (act.put o.dst u) w') → o.wp E.P act w K Q
theorem YldW.c {a : AS} {op : Op} {v : PV} (hy : YldW E a op v) : YldC E a op v := by
  intro w I G act o ho g r K Q k
  obtain ⟨u, w', I', hu, g', s, hr⟩ := hy w I G act o ho g r
  unfold Oper.wp
  rw [hu]
  exact k u w' I' G g' s hr
theorem Yld.c {a : AS} {op : Op} {v : PV} (hy : Yld E a op v) : YldC E a op v := YldW.c (Yld.toW hy)
theorem YldC.call {a : AS} (f : FuncId) (xs : Array Operand) (ts : Array TypeId) {v : PV} (hok : (xs.toList.all fun x => okArg (a.eval E x)) = true) (hc : SCalls E f (xs.toList.map (a.eval E)) a.h (Ret v a.h)) :
    YldC E a (.call { callee := .value (.func f), args := xs, argTypes := ts }) v := by
  intro w I G act o hop g r K Q k
  obtain ⟨⟨fn, c, hf, hb, hname⟩, hcalls⟩ := hc
  have hrs : R0s w I (xs.toList.map (a.eval E)) (xs.toList.map act.eval) := R0s_map g r _ hok
  have hcall := hcalls w I G _ g hrs
  unfold Oper.wp
  have hrun : (execOp act.eval o).run E.P w = .ok (.enter f (xs.toList.map act.eval).toArray) w := by
    simp only [execOp, hop, resolve, Act.eval, Deferred.ofValue, Sem.run_bind, Sem.run_pure, Result.andThen_ok, invoke]
    have hne : fn.name ≠ "runtime.NumGoroutine" := by simpa using hname
    have hcf : ∀ as, (callFunc f as).run E.P w = .ok (.enter f as) w := fun as => by simp [callFunc, hf, hne, hb]
    rw [hcf]
    congr 2
    apply Array.ext'
    simp
  rw [hrun, Oper.upon_enter]
  refine hcall.mono ?_
  intro e w' ⟨I', G', h', g', s, q⟩
  cases e with
  | returned u =>
    obtain ⟨p, hp, q1, q2⟩ := q
    injection q1 with q1
    subst q1; subst q2
    exact k u w' I' G' g' s hp
  | panicked c => obtain ⟨q1, _⟩ := q; cases q1
  | outgrown => exact q.elim
theorem YldC.xcall {a : AS} (f : FuncId) (xs : Array Operand) (ts : Array TypeId) {v : PV} (hok : (xs.toList.all fun x => okArg (a.eval E x)) = true) (hc : XCalls E f (xs.toList.map (a.eval E)) a.h v) :
    YldC E a (.call { callee := .value (.func f), args := xs, argTypes := ts }) v := by
  refine Yld.c fun w I G act o hop g r => ?_
  obtain ⟨u, hu, hr⟩ := hc w I G _ g (R0s_map g r _ hok)
  refine ⟨u, ?_, hr⟩
  simp only [execOp, hop, resolve, Act.eval, Deferred.ofValue, Sem.run_bind, Sem.run_pure, Result.andThen_ok, invoke]
  have e : (#[] ++ Array.map act.eval xs ++ #[] : Array Value) = (xs.toList.map act.eval).toArray := by
    apply Array.ext'
    simp
  first
    | (rw [e]; exact hu)
    | (simp only [e]; exact hu)
theorem YldC.fcall {a : AS} (f : FuncId) (xs : Array Operand) (ts : Array TypeId) {v : PV} (hok : (xs.toList.all fun x => okArg (a.eval E x)) = true) (hc : FCalls E f (xs.toList.map (a.eval E)) a.h v) :
    YldC E a (.call { callee := .value (.func f), args := xs, argTypes := ts }) v :=
  hc.elim (YldC.call f xs ts hok) (YldC.xcall f xs ts hok)
theorem getElem?_getD_lt {α : Type} {l : List α} {n : Nat} (d : α) (h : n < l.length) : l[n]? = some (l.getD n d) := by
  simp [List.getD_eq_getElem?_getD, h]

theorem Yld.min2 {a : AS} (x y : Operand) (ts : Array TypeId) {k : IntKind} {m n : Int} (hx : a.eval E x = .int k m) (hy : a.eval E y = .int k n) : Yld E a (.call { callee := .builtin .min, args := #[x, y], argTypes := ts }) (.int k (if n < m then n else m)) := by
  intro w I G act o ho g r
  have h1 := r.eval g x
  rw [hx] at h1
  have h1 := R_int h1
  have h2 := r.eval g y
  rw [hy] at h2
  have h2 := R_int h2
  refine ⟨.int k (if n < m then n else m), ?_, rfl⟩
  have e := run_min_int2 (P := E.P) (w := w) ts o.type k k m n
  simp [execOp, ho, resolve, invoke, builtin, h1, h2, e]
theorem Yld.max2 {a : AS} (x y : Operand) (ts : Array TypeId) {k : IntKind} {m n : Int} (hx : a.eval E x = .int k m) (hy : a.eval E y = .int k n) : Yld E a (.call { callee := .builtin .max, args := #[x, y], argTypes := ts }) (.int k (if m < n then n else m)) := by
  intro w I G act o ho g r
  have h1 := r.eval g x
  rw [hx] at h1
  have h1 := R_int h1
  have h2 := r.eval g y
  rw [hy] at h2
  have h2 := R_int h2
  refine ⟨.int k (if m < n then n else m), ?_, rfl⟩
  have e := run_max_int2 (P := E.P) (w := w) ts o.type k k m n
  simp [execOp, ho, resolve, invoke, builtin, h1, h2, e]
theorem Yld.unsafeSliceData_nil {a : AS} (x : Operand) (ts : Array TypeId) {n c : Nat} (hx : a.eval E x = .val (.slice none n c)) : Yld E a (.call { callee := .builtin .unsafeSliceData, args := #[x], argTypes := ts }) (.val (.pointer none)) := by
  intro w I G act o ho g r
  have h1 := r.eval g x
  rw [hx] at h1
  have h1 := R_val h1
  refine ⟨.pointer none, ?_, ⟨rfl, rfl⟩⟩
  have e := Lib.run_unsafeSliceData_nil (P := E.P) (w := w) ts o.type n c
  simp [execOp, ho, resolve, invoke, builtin, h1, e]
theorem Yld.unsafeSliceData_row {a : AS} (x : Operand) (ts : Array TypeId) {r0 o0 n c : Nat} (hc : c ≠ 0) (hx : a.eval E x = .val (.slice (some ⟨r0, o0, none⟩) n c)) : Yld E a (.call { callee := .builtin .unsafeSliceData, args := #[x], argTypes := ts }) (.val (.pointer (some ⟨r0, o0, none⟩))) := by
  intro w I G act o ho g r
  have h1 := r.eval g x
  rw [hx] at h1
  have h1 := R_val h1
  refine ⟨.pointer (some ⟨r0, o0, none⟩), ?_, ⟨rfl, rfl⟩⟩
  have e := Lib.run_unsafeSliceData_row (P := E.P) (w := w) ts o.type ⟨r0, o0, none⟩ n c hc
  simp [execOp, ho, resolve, invoke, builtin, h1, e]

/-! ### Addresses without a type -/
theorem Yld.to_unsafe {a : AS} {s t : TypeId} (x : Operand) {is it iT : TyI} {T e : TypeId} {r0 o0 size : Nat} {cs : List PV} (hs : E.ty s = some is) (hk : is.k = .ptr T) (hT : E.ty T = some iT) (hz : iT.size ≠ 0) (ht : E.ty t = some it) (hkt : it.k = .uptr) (hx : a.eval E x = .val (.pointer (some ⟨r0, o0, none⟩))) (hr0 : a.h r0 = some (.cells e size cs)) (ho : o0 < size) :
    Yld E a (.convert s t x) (.val (.pointer (some ⟨r0, o0, none⟩))) := by
  intro w I G act o hop g r
  have hx' := r.eval g x
  rw [hx] at hx'
  have hx' := R_val hx'
  have hds := ty_under hs
  rw [hk] at hds
  have hdt := ty_under ht
  rw [hkt] at hdt
  obtain ⟨inf, z, hi, hisz, _⟩ := ty_info hT
  obtain ⟨h1, h2, h3, us, rs, hh, hr, hsz⟩ := g.own _ _ hr0
  have hrun := Lib.run_to_unsafe (P := E.P) w ⟨r0, o0, none⟩ hds hdt hi (by rw [hisz]; exact hz) (by simp [World.shape?, hh] : w.shape? r0 = some (e, (us ++ rs).length)) (by simp; omega)
  refine ⟨_, ?_, ⟨rfl, rfl⟩⟩
  simp only [execOp, hop, hx', Sem.run_bind]
  rw [hrun]
  rfl
theorem Yld.from_unsafe {a : AS} {s t : TypeId} (x : Operand) {is it iu : TyI} {u e : TypeId} {r0 o0 size : Nat} {cs : List PV} (hs : E.ty s = some is) (hk : is.k = .uptr) (ht : E.ty t = some it) (hkt : it.k = .ptr u) (hu : E.ty u = some iu) (hx : a.eval E x = .val (.pointer (some ⟨r0, o0, none⟩))) (hr0 : a.h r0 = some (.cells e size cs))
    (hl : liesAt E.P E.P.depth e (size / E.P.cellsOf e) o0 u 1 = true) : Yld E a (.convert s t x) (.val (.pointer (some ⟨r0, o0, none⟩))) := by
  intro w I G act o hop g r
  have hx' := r.eval g x
  rw [hx] at hx'
  have hx' := R_val hx'
  have hds := ty_under hs
  rw [hk] at hds
  have hdt := ty_under ht
  rw [hkt] at hdt
  obtain ⟨inf, z, hi, _⟩ := ty_info hu
  obtain ⟨h1, h2, h3, us, rs, hh, hr, hsz⟩ := g.own _ _ hr0
  have hrun := Lib.run_from_unsafe (P := E.P) w ⟨r0, o0, none⟩ hds hdt hi (by simp [World.shape?, hh] : w.shape? r0 = some (e, (us ++ rs).length)) (by rw [List.length_append, hsz]; exact hl)
  refine ⟨_, ?_, ⟨rfl, rfl⟩⟩
  simp only [execOp, hop, hx', Sem.run_bind]
  rw [hrun]
  rfl
theorem pconvH_ok {a : AS} {s t : TypeId} {x : Operand} {i j : TyI} (hs : E.ty s = some i) (ht : E.ty t = some j) (hp : (pconvH E a.h i j (a.eval E x)).1) : YldW E a (.convert s t x) (pconvH E a.h i j (a.eval E x)).2 := by
  unfold pconvH at hp ⊢
  split
  · rename_i r0 o0 hx
    rw [hx] at hp
    dsimp only at hp
    split at hp
    · rename_i e size cs hr
      cases hk : i.k <;> rw [hk] at hp <;> try exact hp.elim
      case ptr T =>
        dsimp only at hp ⊢
        cases hj : j.k <;> rw [hj] at hp <;> try exact hp.elim
        dsimp only at hp ⊢
        cases hT : E.ty T with
        | none => rw [hT] at hp; exact hp.elim
        | some iT =>
          rw [hT] at hp
          exact Yld.toW (Yld.to_unsafe x hs hk hT hp.1 ht hj hx hr hp.2)
      case uptr =>
        dsimp only at hp ⊢
        cases hj : j.k <;> rw [hj] at hp <;> try exact hp.elim
        rename_i u
        dsimp only at hp ⊢
        cases hu : E.ty u with
        | none => rw [hu] at hp; exact hp.elim
        | some iu =>
          rw [hu] at hp
          exact Yld.toW (Yld.from_unsafe x hs hk ht hj hu hx hr hp)
    · exact hp.elim
  · rename_i hne
    have e : ∀ {α : Type} (A : Nat → Nat → α) (C : PV → α), (match a.eval E x with | .val (.pointer (some ⟨r0, o0, none⟩)) => A r0 o0 | x => C x) = C (a.eval E x) := by
      intro α A C
      split
      · rename_i hh; exact absurd hh (hne _ _)
      · rfl
    rw [e] at hp
    exact pconv_ok hs ht hp

theorem px_ok {a : AS} {op : Op} (hp : (px E S (a.eval E) a.h op).1) : YldC E a op (px E S (a.eval E) a.h op).2 := by
  cases op <;> try exact hp.elim
  case move x => exact (Yld.move x).c
  case assign x => exact (Yld.assign x).c
  case pick c x y =>
    simp only [px] at hp ⊢
    split at hp
    · rename_i b hb
      (try rw [hb])
      have := (Yld.pick (E := E) c x y hb).c
      cases b <;> exact this
    · exact hp.elim
  case binOp op t x y ty => exact (pbinP_ok ty hp).c
  case unOp op t x =>
    simp only [px] at hp ⊢
    split at hp
    · rename_i v hv
      (try rw [hv])
      exact (Yld.unOp op t x hv).c
    · exact hp.elim
  case nilCheck x =>
    simp only [px] at hp ⊢
    split at hp
    · rename_i ad hx; (try rw [hx]); exact (Yld.nilCheck x hx).c
    · rename_i cs hx; (try rw [hx]); exact (Yld.nilCheck_elem x hx).c
    · exact hp.elim
  case convert s t x =>
    simp only [px] at hp ⊢
    cases hs : E.ty s with
    | none => rw [hs] at hp; exact hp.elim
    | some i =>
      cases ht : E.ty t with
      | none => rw [hs, ht] at hp; exact hp.elim
      | some j =>
        rw [hs, ht] at hp
        exact YldW.c (pconvH_ok hs ht hp)
  case makeInterface t x =>
    simp only [px, pmakeIface] at hp ⊢
    cases ht : E.ty t with
    | none => rw [ht] at hp; exact hp.elim
    | some i =>
      rw [ht] at hp
      try dsimp only at hp ⊢
      cases hx : a.eval E x <;> rw [hx] at hp <;> try exact hp.elim
      case agg cs => exact (Yld.makeInterface x ht hp hx (.inl ⟨rfl, rfl⟩)).c
      all_goals exact (Yld.makeInterface x ht hp hx (.inr (by simp))).c
  case makeFunc fn first caps =>
    simp only [px] at hp ⊢
    cases hv : unVs (caps.toList.map (a.eval E)) with
    | none => rw [hv] at hp; exact hp.elim
    | some vs =>
      rw [hv] at hp
      obtain rfl : first = #[] := hp
      obtain ⟨h1, h2, h3⟩ := unVs_spec hv
      exact (Yld.makeFunc fn caps vs h1 h2 h3).c
  case fieldAddr s x f =>
    simp only [px, pfieldAddr] at hp ⊢
    cases hf : fieldOf E s f with
    | none => rw [hf] at hp; exact hp.elim
    | some oi =>
      obtain ⟨off, i⟩ := oi
      rw [hf] at hp
      try dsimp only at hp ⊢
      split at hp
      · rename_i r o hx; (try rw [hx]); exact (Yld.fieldAddr_val s x f hf hp hx).c
      · rename_i cs hx; (try rw [hx]); exact (Yld.fieldAddr_elem s x f hf hp hx).c
      · exact hp.elim
  case field s x f =>
    simp only [px, pfield] at hp ⊢
    cases hf : fieldOf E s f with
    | none => rw [hf] at hp; exact hp.elim
    | some oi =>
      obtain ⟨off, i⟩ := oi
      rw [hf] at hp
      try dsimp only at hp ⊢
      split at hp
      · rename_i cs hx; (try rw [hx]); exact (Yld.field s x f hf hp.1 hx hp.2).c
      · exact hp.elim
  case load t x =>
    simp only [px, pload] at hp ⊢
    cases ht : E.ty t with
    | none => rw [ht] at hp; exact hp.elim
    | some i =>
      rw [ht] at hp
      try dsimp only at hp ⊢
      split at hp
      · rename_i cs hx; (try rw [hx]); exact (Yld.load_elem t x ht hp.1 hx hp.2).c
      · rename_i r o hx
        (try rw [hx])
        try dsimp only at hp ⊢
        split at hp
        · rename_i t' size cs hr; (try rw [hr]); exact (Yld.load_val t x ht hp.1 hx hr hp.2).c
        · exact hp.elim
      · exact hp.elim
  case indexAddr t x j =>
    simp only [px, pindexAddr] at hp ⊢
    cases ht : E.ty t with
    | none => rw [ht] at hp; exact hp.elim
    | some i =>
      rw [ht] at hp
      try dsimp only at hp ⊢
      cases hk : i.k <;> rw [hk] at hp <;> try exact hp.elim
      case slice e =>
        try dsimp only at hp ⊢
        cases he : E.ty e with
        | none => rw [he] at hp; exact hp.elim
        | some ie =>
          rw [he] at hp
          try dsimp only at hp ⊢
          split at hp
          · rename_i sz xs hx
            (try rw [hx])
            try dsimp only at hp ⊢
            split at hp
            · rename_i k n hj
              (try rw [hj])
              obtain ⟨h1, h2, h3, h4⟩ := hp
              exact (Yld.indexAddr_list t x j ht hk he h1 h2 hx hj h3 (getElem?_getD_lt [] h4)).c
            · exact hp.elim
          · rename_i r o len cp hx
            (try rw [hx])
            try dsimp only at hp ⊢
            split at hp
            · rename_i k n hj
              (try rw [hj])
              exact (Yld.indexAddr_val t x j ht hk he hx hj hp.1 hp.2).c
            · exact hp.elim
          · exact hp.elim
      case array len e =>
        try dsimp only at hp ⊢
        cases he : E.ty e with
        | none => rw [he] at hp; exact hp.elim
        | some ie =>
          rw [he] at hp
          try dsimp only at hp ⊢
          split at hp
          · rename_i r o hx
            (try rw [hx])
            try dsimp only at hp ⊢
            split at hp
            · rename_i k n hj
              (try rw [hj])
              exact (Yld.indexAddr_arr t x j ht hk he hx hj hp.1 hp.2).c
            · exact hp.elim
          · exact hp.elim
  case index t x j =>
    simp only [px, pindex] at hp ⊢
    cases ht : E.ty t with
    | none => rw [ht] at hp; exact hp.elim
    | some i =>
      rw [ht] at hp
      try dsimp only at hp ⊢
      cases hk : i.k <;> rw [hk] at hp <;> try exact hp.elim
      try dsimp only at hp ⊢
      split at hp
      · rename_i l hx
        (try rw [hx])
        try dsimp only at hp ⊢
        split at hp
        · rename_i k n hj
          (try rw [hj])
          exact (Yld.index_str t x j ht hk hx hj hp.1 (getElem?_getD_lt 0 hp.2)).c
        · exact hp.elim
      · exact hp.elim
  case slice t x lo hi m =>
    cases m with
    | some _ => exact hp.elim
    | none =>
      simp only [px, pslice] at hp ⊢
      have hB : ∀ x d, pB (a.eval E) x d = evB E a x d := fun _ _ => rfl
      cases ht : E.ty t with
      | none => rw [ht] at hp; exact hp.elim
      | some i =>
        rw [ht] at hp
        simp only [hB] at hp ⊢
        split at hp
        · rename_i l hx
          (try rw [hx])
          try dsimp only at hp ⊢
          cases hk : i.k <;> rw [hk] at hp <;> try exact hp.elim
          try dsimp only at hp ⊢
          cases hlo : evB E a lo 0 with
          | none => rw [hlo] at hp; exact hp.elim
          | some L =>
            cases hhi : evB E a hi l.length with
            | none => rw [hlo, hhi] at hp; exact hp.elim
            | some H =>
              rw [hlo, hhi] at hp
              exact (Yld.slice_str t x lo hi ht hk hx hlo hhi hp.1 hp.2.1 hp.2.2).c
        · rename_i sz xs hx
          (try rw [hx])
          try dsimp only at hp ⊢
          cases hk : i.k <;> rw [hk] at hp <;> try exact hp.elim
          rename_i e
          try dsimp only at hp ⊢
          cases he : E.ty e with
          | none => rw [he] at hp; exact hp.elim
          | some ie =>
            cases hlo : evB E a lo 0 with
            | none => rw [he, hlo] at hp; exact hp.elim
            | some L =>
              cases hhi : evB E a hi xs.length with
              | none => rw [he, hlo, hhi] at hp; exact hp.elim
              | some H =>
                rw [he, hlo, hhi] at hp
                exact (Yld.slice_list t x lo hi ht hk he hp.1 hx hlo hhi hp.2.1 hp.2.2.1 hp.2.2.2).c
        · rename_i r o n cp hx
          (try rw [hx])
          try dsimp only at hp ⊢
          cases hk : i.k <;> rw [hk] at hp <;> try exact hp.elim
          rename_i e
          try dsimp only at hp ⊢
          cases he : E.ty e with
          | none => rw [he] at hp; exact hp.elim
          | some ie =>
            cases hlo : evB E a lo 0 with
            | none => rw [he, hlo] at hp; exact hp.elim
            | some L =>
              cases hhi : evB E a hi n with
              | none => rw [he, hlo, hhi] at hp; exact hp.elim
              | some H =>
                rw [he, hlo, hhi] at hp
                exact (Yld.slice_val t x lo hi ht hk he hx hlo hhi hp.1 hp.2.1 hp.2.2).c
        · rename_i hx
          (try rw [hx])
          try dsimp only at hp ⊢
          cases hk : i.k <;> rw [hk] at hp <;> try exact hp.elim
          rename_i e
          try dsimp only at hp ⊢
          cases he : E.ty e with
          | none => rw [he] at hp; exact hp.elim
          | some ie =>
            cases hlo : evB E a lo 0 with
            | none => rw [he, hlo] at hp; exact hp.elim
            | some L =>
              cases hhi : evB E a hi 0 with
              | none => rw [he, hlo, hhi] at hp; exact hp.elim
              | some H =>
                rw [he, hlo, hhi] at hp
                exact (Yld.slice_nil t x lo hi ht hk he hx hlo hhi hp.1 hp.2.1 hp.2.2).c
        · exact hp.elim
  case extract x j =>
    simp only [px] at hp ⊢
    split at hp
    · rename_i vs hx
      (try rw [hx])
      try dsimp only at hp ⊢
      cases hj : vs[j]? with
      | none => rw [hj] at hp; exact hp.elim
      | some v => exact (Yld.extract x j hx hj).c
    · exact hp.elim
  case build t parts =>
    simp only [px, pbuild] at hp ⊢
    cases ht : E.ty t with
    | none => rw [ht] at hp; exact hp.elim
    | some i =>
      rw [ht] at hp
      try dsimp only at hp ⊢
      cases hk : i.k <;> rw [hk] at hp <;> try exact hp.elim
      rename_i fs
      try dsimp only at hp ⊢
      split at hp
      · rename_i cs hf
        (try rw [hf])
        exact (Yld.build t parts ht hk hp.1 hp.2.1 hp.2.2 hf).c
      · exact hp.elim
  case buildSlice t n parts =>
    simp only [px, pbuildSlice] at hp ⊢
    cases ht : E.ty t with
    | none => rw [ht] at hp; exact hp.elim
    | some i =>
      rw [ht] at hp
      try dsimp only at hp ⊢
      cases hk : i.k <;> rw [hk] at hp <;> try exact hp.elim
      rename_i e
      try dsimp only at hp ⊢
      cases he : E.ty e with
      | none => rw [he] at hp; exact hp.elim
      | some ie =>
        rw [he] at hp
        try dsimp only at hp ⊢
        split at hp
        · rename_i cs hf
          (try rw [hf])
          obtain ⟨h1, h2, h3, h4, h5, h6⟩ := hp
          obtain ⟨c1, c2, c3⟩ := chunk_spec ie.size n cs h6
          exact YldW.c (YldW.buildSlice t n parts ht hk he h1 h2 h3 h4 h5 hf c1 c2 c3)
        · exact hp.elim
  case call c =>
    obtain ⟨callee, args, argTypes⟩ := c
    simp only [px, pcall] at hp ⊢
    split at hp
    · try dsimp only at hp ⊢
      split at hp
      · rename_i x t hx ht
        cases hty : E.ty t with
        | none => rw [hty] at hp; exact hp.elim
        | some i =>
          cases hn : plen (a.eval E x) with
          | none => rw [hty, hn] at hp; exact hp.elim
          | some n =>
            rw [hty, hn] at hp
            obtain ⟨h1, h2, h3⟩ := hp
            rw [h1, h2]
            exact (Yld.len x t hty h3 hn).c
      · exact hp.elim
    · try dsimp only at hp ⊢
      split at hp
      · rename_i x hx
        split at hp
        · rename_i t ht
          cases hty : E.ty t with
          | none => rw [hty] at hp; exact hp.elim
          | some i =>
            rw [hty] at hp
            try dsimp only at hp ⊢
            cases hk : i.k <;> rw [hk] at hp <;> try exact hp.elim
            try dsimp only at hp ⊢
            split at hp
            · rename_i A n cp hv
              rw [hp.1, hp.2]
              exact (Yld.cap_val x t hty hk hv).c
            · exact hp.elim
        · exact hp.elim
      · exact hp.elim
    · try dsimp only at hp ⊢
      split at hp
      · rename_i x y hxy
        split at hp
        · rename_i k m hx
          split at hp
          · rename_i k' n hy
            obtain ⟨h1, rfl⟩ := hp
            rw [h1]
            exact (Yld.min2 x y argTypes hx hy).c
          · exact hp.elim
        · exact hp.elim
      · exact hp.elim
    · try dsimp only at hp ⊢
      split at hp
      · rename_i x y hxy
        split at hp
        · rename_i k m hx
          split at hp
          · rename_i k' n hy
            obtain ⟨h1, rfl⟩ := hp
            rw [h1]
            exact (Yld.max2 x y argTypes hx hy).c
          · exact hp.elim
        · exact hp.elim
      · exact hp.elim
    · try dsimp only at hp ⊢
      split at hp
      · rename_i x hx
        split at hp
        · rename_i n cp hv
          rw [show args = #[x] from hp]
          exact (Yld.unsafeSliceData_nil x argTypes hv).c
        · rename_i r o n cp hv
          rw [hp.1]
          exact (Yld.unsafeSliceData_row x argTypes hp.2 hv).c
        · exact hp.elim
      · exact hp.elim
    · exact YldC.fcall _ _ _ hp.1 (Specs.ok hp.2)
    · exact hp.elim
end
end Go.Proofs.Ythlibdhjcjangaa.Lift
