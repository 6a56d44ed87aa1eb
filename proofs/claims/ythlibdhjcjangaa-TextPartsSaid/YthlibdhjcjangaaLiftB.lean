/- The lifted heap and state, and what they say of a world. -/
import Derived.Test.YthlibdhjcjangaaLiftA
set_option linter.unusedSimpArgs false
set_option linter.unusedVariables false
namespace Go.Proofs.Ythlibdhjcjangaa.Lift
open Go Go.RowKit

def PV.cells : PV → List PV
  | .agg cs => cs
  | x => [x]

/-- What the walk at hand owns: blocks that may be written. -/
inductive AObj where
  | cells (t : TypeId) (size : Nat) (cs : List PV)
  | bld (T e : TypeId) (bs : List UInt8)
  | iter (s : List UInt8) (pos : Nat)

abbrev Heap := Nat → Option AObj
def Heap.put (h : Heap) (r : Nat) (o : AObj) : Heap := fun k => if k = r then some o else h k
def Heap.del (h : Heap) (r : Nat) : Heap := fun k => if k = r then none else h k
theorem Heap.put_same (h : Heap) (r : Nat) (o : AObj) : h.put r o r = some o := by simp [Heap.put]
theorem Heap.put_ne (h : Heap) {r k : Nat} (o : AObj) (hk : k ≠ r) : h.put r o k = h k := by simp [Heap.put, hk]
theorem Heap.put_none (h : Heap) (r k : Nat) (o : AObj) : h.put r o k = none ↔ k ≠ r ∧ h k = none := by
  by_cases e : k = r <;> simp [Heap.put, e]
theorem Heap.put_put (h : Heap) (r : Nat) (o o' : AObj) : (h.put r o).put r o' = h.put r o' := by
  funext k; by_cases e : k = r <;> simp [Heap.put, e]
theorem Heap.put_comm (h : Heap) {r r' : Nat} (o o' : AObj) (hne : r ≠ r') : (h.put r o).put r' o' = (h.put r' o').put r o := by
  funext k; by_cases e : k = r <;> by_cases e' : k = r' <;> simp [Heap.put, e, e'] <;> omega
theorem Heap.del_put (h : Heap) (r : Nat) (o : AObj) (hn : h r = none) : (h.put r o).del r = h := by
  funext k; by_cases e : k = r <;> simp [Heap.put, Heap.del, e, hn]
theorem Heap.del_put_ne (h : Heap) {r r' : Nat} (o : AObj) (hne : r ≠ r') : (h.put r' o).del r = (h.del r).put r' o := by
  funext k; by_cases e : k = r <;> by_cases e' : k = r' <;> simp [Heap.put, Heap.del, e, e'] <;> omega
theorem Heap.del_none (h : Heap) (r : Nat) (hn : h r = none) : h.del r = h := by
  funext k; by_cases e : k = r <;> simp [Heap.del, e, hn]
theorem Heap.put_del (h : Heap) (r : Nat) (o : AObj) : (h.del r).put r o = h.put r o := by
  funext k; by_cases e : k = r <;> simp [Heap.put, Heap.del, e]
theorem Heap.del_same (h : Heap) (r : Nat) : h.del r r = none := by simp [Heap.del]
theorem Heap.del_ne (h : Heap) {r k : Nat} (hk : k ≠ r) : h.del r k = h k := by simp [Heap.del, hk]

/-- Bytes as cells. -/
def byteVals (l : List UInt8) : List Value := l.map fun b => .int .u8 b.toNat

/-- What an owned block is in a world. -/
def RObj (w : World) (I : Nat → Prop) (G : Nat → Option Nat) (r : Nat) : AObj → Prop
  | .cells t size cs => ∃ us rest, w.heap[r]? = some (.cells (us ++ rest).toArray t (0, 0)) ∧ RL w I cs us ∧ us.length + rest.length = size
  | .iter s pos => w.heap[r]? = some (.stringIter ⟨s.toArray⟩ pos)
  | .bld T e bs =>
    (bs = [] ∧ ∃ p, (p = none ∨ p = some ⟨r, 0, none⟩) ∧ w.heap[r]? = some (.cells #[.pointer p, .slice none 0 0] T (0, 0))) ∨
    (∃ k cap rest, G k = some r ∧ w.heap[r]? = some (.cells #[.pointer (some ⟨r, 0, none⟩), .slice (some ⟨k, 0, none⟩) bs.length cap] T (0, 0)) ∧
      w.heap[k]? = some (.cells (byteVals bs ++ rest).toArray e (0, 0)) ∧ bs.length + rest.length = cap ∧ cap ≤ maxLen ∧ 0 < cap)

/-- What a type is: its kind, how many cells and bytes it has, its zero value's cells. -/
inductive TK where
  | int (k : IntKind) | bool | str | float (k : FloatKind) | ptr (e : TypeId) | slice (e : TypeId) | struct (fs : List (Nat × TypeId)) | array (n : Nat) (e : TypeId)
  | map (k e : TypeId) | func | iface | uptr
structure TyI where
  k : TK
  size : Nat
  bytes : Nat
  zero : List Value
def TK.isAgg : TK → Bool
  | .struct _ | .array _ _ => true
  | _ => false
def TK.desc (P : Program) (t : TypeId) : TK → Prop
  | .int k => P.underlying t = some (.int k)
  | .bool => P.underlying t = some .bool
  | .str => P.underlying t = some .string
  | .float k => P.underlying t = some (.float k)
  | .ptr e => P.underlying t = some (.pointer e)
  | .slice e => P.underlying t = some (.slice e)
  | .struct fs => ∃ fields, P.underlying t = some (.struct fields) ∧ fields.toList.map (fun f => (f.offset, f.type)) = fs
  | .array n e => P.underlying t = some (.array n e)
  | .map k e => P.underlying t = some (.map k e)
  | .func => ∃ ps rs v, P.underlying t = some (.func ps rs v)
  | .iface => ∃ ms, P.underlying t = some (.interface ms)
  | .uptr => P.underlying t = some .unsafePointer
structure Agrees (P : Program) (t : TypeId) (i : TyI) : Prop where
  desc : i.k.desc P t
  info : (P.info? t).map (fun j => (j.size, j.bytes, j.zero.map fun z => (z.cells.toList, match z with | .agg _ => true | _ => false))) = some (i.size, i.bytes, some (i.zero, i.k.isAgg))
def AllAgree (P : Program) : List (TypeId × TyI) → Prop
  | [] => True
  | x :: l => Agrees P x.1 x.2 ∧ AllAgree P l
def look {α : Type} : List (Nat × α) → Nat → Option α
  | [], _ => none
  | x :: l, t => if x.1 = t then some x.2 else look l t
theorem AllAgree.look {P : Program} : ∀ {l : List (TypeId × TyI)}, AllAgree P l → ∀ {t i}, Lift.look l t = some i → Agrees P t i
  | [], _, _, _, h => by simp [Lift.look] at h
  | x :: l, ⟨h1, h2⟩, t, i, h => by
    simp only [Lift.look] at h
    split at h
    · rename_i e; cases h; subst e; exact h1
    · exact h2.look h

/-- The program, its types, and variables of it that nobody writes. -/
structure Env where
  P : Program
  tab : List (TypeId × TyI)
  gl : List (Nat × List PV)
  ok : AllAgree P tab
def Env.ty (E : Env) (t : TypeId) : Option TyI := look E.tab t

/-- The world holds what is owned; what is readable is owned by nobody. -/
structure Good (E : Env) (w : World) (I : Nat → Prop) (G : Nat → Option Nat) (h : Heap) : Prop where
  own : ∀ r o, h r = some o → r < w.heap.size ∧ ¬ I r ∧ G r = none ∧ RObj w I G r o
  hid : ∀ k r, G k = some r → k < w.heap.size ∧ ¬ I k ∧ h k = none ∧ ∃ T e bs, h r = some (.bld T e bs)
  imm : ∀ k, I k → k < w.heap.size
  glob : ∀ g cs, look E.gl g = some cs → R1 w I (.elem cs) (.pointer (some ⟨g, 0, none⟩))

/-- What has become of a world: who is owned by nobody stands as it stood. -/
structure Stp (w : World) (I : Nat → Prop) (G : Nat → Option Nat) (h : Heap) (w' : World) (I' : Nat → Prop) (G' : Nat → Option Nat) (h' : Heap) : Prop where
  os : w'.os = w.os
  tape : w'.tape = w.tape
  output : w'.output = w.output
  size : w.heap.size ≤ w'.heap.size
  keep : ∀ k, k < w.heap.size → h k = none → G k = none → w'.heap[k]? = w.heap[k]? ∧ h' k = none ∧ G' k = none
  imm : ∀ k, I k → I' k
  far : ∀ k, k < w.heap.size → h k = none → G k = none → I' k → I k

theorem Stp.refl (w : World) (I : Nat → Prop) (G : Nat → Option Nat) (h : Heap) : Stp w I G h w I G h :=
  ⟨rfl, rfl, rfl, Nat.le_refl _, fun _ _ a b => ⟨rfl, a, b⟩, fun _ h => h, fun _ _ _ _ h => h⟩
theorem Stp.trans {w w1 w2 : World} {I I1 I2 : Nat → Prop} {G G1 G2 : Nat → Option Nat} {h h1 h2 : Heap} (s : Stp w I G h w1 I1 G1 h1) (t : Stp w1 I1 G1 h1 w2 I2 G2 h2) : Stp w I G h w2 I2 G2 h2 :=
  ⟨t.os.trans s.os, t.tape.trans s.tape, t.output.trans s.output, Nat.le_trans s.size t.size,
   fun k hk a b => by
     obtain ⟨e, a1, b1⟩ := s.keep k hk a b
     obtain ⟨e2, a2, b2⟩ := t.keep k (Nat.lt_of_lt_of_le hk s.size) a1 b1
     exact ⟨e2.trans e, a2, b2⟩,
   fun k hk => t.imm k (s.imm k hk),
   fun k hk a b hi => by
     obtain ⟨_, a1, b1⟩ := s.keep k hk a b
     exact s.far k hk a b (t.far k (Nat.lt_of_lt_of_le hk s.size) a1 b1 hi)⟩
theorem Good.unowned {E : Env} {w : World} {I : Nat → Prop} {G : Nat → Option Nat} {h : Heap} (g : Good E w I G h) {k : Nat} (hk : I k) : h k = none ∧ G k = none := by
  constructor
  · cases e : h k with
    | none => rfl
    | some o => exact absurd hk (g.own k o e).2.1
  · cases e : G k with
    | none => rfl
    | some r => exact absurd hk (g.hid k r e).2.1
theorem Stp.keeps {E : Env} {w w' : World} {I I' : Nat → Prop} {G G' : Nat → Option Nat} {h h' : Heap} (s : Stp w I G h w' I' G' h') (g : Good E w I G h) : Keeps w I w' I' :=
  fun k hk => ⟨s.imm k hk, (s.keep k (g.imm k hk) (g.unowned hk).1 (g.unowned hk).2).1⟩

/-- A state: the slots that are known, and what is owned. -/
structure AS where
  n : Nat
  s : List (Nat × PV)
  h : Heap
def AS.get (a : AS) (t : Nat) : PV := (look a.s t).getD .any
def dropKey (s : List (Nat × PV)) (d : Nat) : List (Nat × PV) :=
  match s with
  | [] => []
  | x :: l => if x.1 = d then dropKey l d else x :: dropKey l d
def AS.put (a : AS) (dst : Option Tmp) (v : PV) : AS :=
  match dst with
  | some d => { a with s := (d, v) :: dropKey a.s d }
  | none => a
def okDst (n : Nat) : Option Tmp → Bool
  | some d => decide (d < n)
  | none => true

/-- A constant. -/
def ofVal : Value → PV
  | .int k n => .int k n
  | .bool b => .bool b
  | .string s => .str s.data.toList
  | .agg _ | .tuple _ => .any
  | v => .val v
/-- A constant, of a struct or an array, too. -/
def ofConst : Value → PV
  | .agg cs => if cs.toList.all Value.oneCell' then .agg (cs.toList.map ofVal) else .any
  | v => ofVal v
def AS.eval (E : Env) (a : AS) : Operand → PV
  | .tmp t => a.get t
  | .const v => ofConst v
  | .global g => match look E.gl g with | some cs => .elem cs | none => .val (.pointer (some ⟨g, 0, none⟩))
  | .func f => .val (.func (.func f) #[] #[])

structure RS (w : World) (I : Nat → Prop) (a : AS) (act : Act) : Prop where
  defers : act.defers = []
  size : act.tmps.size = a.n
  slot : ∀ t, R w I (a.get t) (act.tmps.getD t undef)

theorem RS.keeps {w w' : World} {I I' : Nat → Prop} (hk : Keeps w I w' I') {a : AS} {act : Act} (h : RS w I a act) : RS w' I' a act :=
  ⟨h.defers, h.size, fun t => R.keeps hk _ _ (h.slot t)⟩

theorem look_dropKey_same (s : List (Nat × PV)) (d : Nat) : look (dropKey s d) d = none := by
  induction s with
  | nil => rfl
  | cons x l ih =>
    unfold dropKey
    split
    · exact ih
    · rename_i hne; simp [look, hne, ih]
theorem look_dropKey_ne (s : List (Nat × PV)) {d t : Nat} (h : t ≠ d) : look (dropKey s d) t = look s t := by
  induction s with
  | nil => rfl
  | cons x l ih =>
    unfold dropKey
    split
    · rename_i e; simp only [look]; rw [if_neg (by omega)]; exact ih
    · simp only [look, ih]
theorem AS.get_put (a : AS) (d : Nat) (v : PV) (t : Nat) : (a.put (some d) v).get t = if t = d then v else a.get t := by
  unfold AS.put AS.get
  simp only [look]
  by_cases e : d = t
  · subst e; simp
  · rw [if_neg e, if_neg (fun h => e h.symm), look_dropKey_ne _ (fun h => e h.symm)]

theorem RS.put {w : World} {I : Nat → Prop} {a : AS} {act : Act} (h : RS w I a act) {dst : Option Tmp} (hd : okDst a.n dst = true) {v : PV} {u : Value} (hv : R w I v u) : RS w I (a.put dst v) (act.put dst u) := by
  cases dst with
  | none => exact h
  | some d =>
    have hd' : d < a.n := of_decide_eq_true hd
    refine ⟨h.defers, ?_, fun t => ?_⟩
    · show (act.tmps.setIfInBounds d u).size = a.n
      rw [Array.size_setIfInBounds]; exact h.size
    · rw [AS.get_put]
      show R w I _ ((act.tmps.setIfInBounds d u).getD t undef)
      by_cases e : t = d
      · subst e
        rw [if_pos rfl]
        simp [Array.getD, h.size, hd']
        exact hv
      · rw [if_neg e]
        have := h.slot t
        simp only [Array.getD_eq_getD_getElem?] at this ⊢
        rw [Array.getElem?_setIfInBounds_ne (fun x => e x.symm)]
        exact this

theorem RL_ofVal (w : World) (I : Nat → Prop) : ∀ (us : List Value), (∀ u ∈ us, u.oneCell' = true) → RL w I (us.map ofVal) us
  | [], _ => rfl
  | u :: us, h => by
    refine ⟨u, us, rfl, ?_, RL_ofVal w I us (fun x hx => h x (List.mem_cons_of_mem _ hx))⟩
    have h1 := h u (List.mem_cons_self ..)
    cases u <;> simp [ofVal, R1, Value.oneCell'] at h1 ⊢
end Go.Proofs.Ythlibdhjcjangaa.Lift
