/- The lifted values: what an abstract value says of a value in a world. -/
import Derived.Tactics
import Derived.Below
import Derived.Laws.Sem
import Derived.Deep.LoopGhost
import Derived.Orders
import Derived.Laws.Cells
import Derived.Laws.Entries
import Derived.ChangeKeysEq
import Derived.Laws.Strings
import Derived.Laws.Cover1
import Derived.Laws.Slices
import Derived.Laws.StructEq
import Derived.Lib.SmallJoins
set_option linter.unusedSimpArgs false
set_option linter.unusedVariables false
namespace Go.Proofs.YtpgnfbdkhakbdaaGreatDoor.Lift
open Go

inductive PV where
  | int (k : IntKind) (n : Int)
  | bool (b : Bool)
  | str (l : List UInt8)
  | val (v : Value)
  | list (sz : Nat) (xs : List (List PV))
  | elem (cs : List PV)
  | iface (t : TypeId) (a : Bool) (cs : List PV)
  | agg (cs : List PV)
  | tuple (vs : List PV)
  | any
  | cap0

def RowAt (w : World) (I : Nat → Prop) (A : Option Addr) (us : List Value) : Prop :=
  us ≠ [] → ∃ ad, A = some ad ∧ I ad.block ∧ ∀ (j : Nat) u, us[j]? = some u → w.cell? (ad.add j) = some u

def ofCells (a : Bool) (us : List Value) : Value := if a then .agg us.toArray else us.getD 0 (.tuple #[])

mutual
def R1 (w : World) (I : Nat → Prop) : PV → Value → Prop
  | .int k n, v => v = .int k n
  | .bool b, v => v = .bool b
  | .str l, v => v = .string ⟨l.toArray⟩
  | .val u, v => v = u ∧ u.oneCell' = true
  | .list sz xs, v => ∃ A c us, v = .slice A xs.length c ∧ xs.length ≤ c ∧ c ≤ maxLen ∧ RE w I sz xs us ∧ RowAt w I A us
  | .elem cs, v => ∃ ad us, v = .pointer (some ad) ∧ RL w I cs us ∧ RowAt w I (some ad) us
  | .iface t a cs, v => ∃ us, v = .iface t (ofCells a us) ∧ RL w I cs us
  | .agg _, _ => False
  | .tuple _, _ => False
  | .any, v => v.oneCell' = true
  | .cap0, v => ∃ A, v = .slice A 0 0
def RL (w : World) (I : Nat → Prop) : List PV → List Value → Prop
  | [], us => us = []
  | x :: xs, us => ∃ u us', us = u :: us' ∧ R1 w I x u ∧ RL w I xs us'
def RE (w : World) (I : Nat → Prop) (sz : Nat) : List (List PV) → List Value → Prop
  | [], us => us = []
  | x :: xs, us => ∃ u1 u2, us = u1 ++ u2 ∧ u1.length = sz ∧ RL w I x u1 ∧ RE w I sz xs u2
end

def Keeps (w : World) (I : Nat → Prop) (w' : World) (I' : Nat → Prop) : Prop := ∀ k, I k → I' k ∧ w'.heap[k]? = w.heap[k]?

theorem add_block (ad : Addr) (j : Nat) : (ad.add j).block = ad.block := by unfold Addr.add; split <;> rfl

theorem RowAt.keeps {w w' : World} {I I' : Nat → Prop} (hk : Keeps w I w' I') {A : Option Addr} {us : List Value} (h : RowAt w I A us) : RowAt w' I' A us := by
  intro hne
  obtain ⟨ad, e, hI, hc⟩ := h hne
  refine ⟨ad, e, (hk _ hI).1, fun j u hj => ?_⟩
  rw [World.cell?_of_block (w := w) (by rw [add_block]; exact (hk _ hI).2)]
  exact hc j u hj

mutual
theorem R1.keeps {w w' : World} {I I' : Nat → Prop} (hk : Keeps w I w' I') : ∀ (x : PV) (v : Value), R1 w I x v → R1 w' I' x v
  | .int _ _, _, h => by simpa only [R1] using h
  | .bool _, _, h => by simpa only [R1] using h
  | .str _, _, h => by simpa only [R1] using h
  | .val _, _, h => by simpa only [R1] using h
  | .list sz xs, v, h => by
    simp only [R1] at h ⊢
    obtain ⟨A, c, us, e, h1, h2, h3, h4⟩ := h
    exact ⟨A, c, us, e, h1, h2, RE.keeps hk sz xs us h3, h4.keeps hk⟩
  | .elem cs, v, h => by
    simp only [R1] at h ⊢
    obtain ⟨ad, us, e, h3, h4⟩ := h
    exact ⟨ad, us, e, RL.keeps hk cs us h3, h4.keeps hk⟩
  | .iface t a cs, v, h => by
    simp only [R1] at h ⊢
    obtain ⟨us, e, h3⟩ := h
    exact ⟨us, e, RL.keeps hk cs us h3⟩
  | .agg _, _, h => by simp only [R1] at h
  | .tuple _, _, h => by simp only [R1] at h
  | .any, _, h => by simpa only [R1] using h
  | .cap0, _, h => by simpa only [R1] using h
theorem RL.keeps {w w' : World} {I I' : Nat → Prop} (hk : Keeps w I w' I') : ∀ (xs : List PV) (us : List Value), RL w I xs us → RL w' I' xs us
  | [], _, h => by simpa only [RL] using h
  | x :: xs, us, h => by
    simp only [RL] at h ⊢
    obtain ⟨u, us', e, h1, h2⟩ := h
    exact ⟨u, us', e, R1.keeps hk x u h1, RL.keeps hk xs us' h2⟩
theorem RE.keeps {w w' : World} {I I' : Nat → Prop} (hk : Keeps w I w' I') (sz : Nat) : ∀ (xs : List (List PV)) (us : List Value), RE w I sz xs us → RE w' I' sz xs us
  | [], _, h => by simpa only [RE] using h
  | x :: xs, us, h => by
    simp only [RE] at h ⊢
    obtain ⟨u1, u2, e, h1, h2, h3⟩ := h
    exact ⟨u1, u2, e, h1, RL.keeps hk x u1 h2, RE.keeps hk sz xs u2 h3⟩
end

def R0 (w : World) (I : Nat → Prop) : PV → Value → Prop
  | .any, _ => True
  | .tuple _, _ => False
  | .agg cs, v => ∃ us, v = .agg us.toArray ∧ RL w I cs us
  | x, v => R1 w I x v
def R0s (w : World) (I : Nat → Prop) : List PV → List Value → Prop
  | [], us => us = []
  | x :: xs, us => ∃ u us', us = u :: us' ∧ R0 w I x u ∧ R0s w I xs us'
def R (w : World) (I : Nat → Prop) : PV → Value → Prop
  | .tuple xs, v => ∃ us, v = .tuple us.toArray ∧ R0s w I xs us
  | x, v => R0 w I x v

theorem R0.keeps {w w' : World} {I I' : Nat → Prop} (hk : Keeps w I w' I') (x : PV) (v : Value) (h : R0 w I x v) : R0 w' I' x v := by
  cases x with
  | any => trivial
  | tuple _ => exact h
  | agg cs => obtain ⟨us, e, h⟩ := h; exact ⟨us, e, RL.keeps hk _ _ h⟩
  | _ => exact R1.keeps hk _ _ h
theorem R0s.keeps {w w' : World} {I I' : Nat → Prop} (hk : Keeps w I w' I') : ∀ (xs : List PV) (us : List Value), R0s w I xs us → R0s w' I' xs us
  | [], _, h => h
  | x :: xs, us, ⟨u, us', e, h1, h2⟩ => ⟨u, us', e, R0.keeps hk x u h1, R0s.keeps hk xs us' h2⟩
theorem R.keeps {w w' : World} {I I' : Nat → Prop} (hk : Keeps w I w' I') (x : PV) (v : Value) (h : R w I x v) : R w' I' x v := by
  cases x with
  | tuple xs => obtain ⟨us, e, h⟩ := h; exact ⟨us, e, R0s.keeps hk _ _ h⟩
  | _ => simp only [R] at h ⊢; exact R0.keeps hk _ _ h
end Go.Proofs.YtpgnfbdkhakbdaaGreatDoor.Lift

namespace Go.Proofs.YtpgnfbdkhakbdaaGreatDoor.Lift
open Go Go.RowKit

def PV.cells : PV → List PV
  | .agg cs => cs
  | x => [x]

def pairV (x : Int × Int) : Value := .agg #[.int .i64 x.1, .int .i64 x.2]
def pairEs (ks : List (Int × Int)) (n : Nat) : List MapEntry := (ks.zipIdx n).map fun x => ⟨pairV x.1, .bool true, x.2⟩
def pairMap (ks : List (Int × Int)) : Obj := .map (pairEs ks 0).toArray ks.length
inductive AObj where
  | cells (t : TypeId) (size : Nat) (cs : List PV)
  | bld (T e : TypeId) (bs : List UInt8)
  | iter (s : List UInt8) (pos : Nat)
  | pmap (ks : List (Int × Int))
  | gmap (ka va : Bool) (es : List (List PV × List PV × Nat)) (n : Nat)
  | miter (m since : Nat) (seen : List Nat)

abbrev Heap := Nat → Option AObj
def Heap.put (h : Heap) (r : Nat) (o : AObj) : Heap := fun k => if k = r then some o else h k
def Heap.del (h : Heap) (r : Nat) : Heap := fun k => if k = r then none else h k
theorem Heap.put_same (h : Heap) (r : Nat) (o : AObj) : h.put r o r = some o := by simp [Heap.put]
theorem Heap.put_ne (h : Heap) {r k : Nat} (o : AObj) (hk : k ≠ r) : h.put r o k = h k := by simp [Heap.put, hk]
theorem Heap.put_none (h : Heap) (r k : Nat) (o : AObj) : h.put r o k = none ↔ k ≠ r ∧ h k = none := by
  by_cases e : k = r <;> simp [Heap.put, e]
theorem Heap.put_put (h : Heap) (r : Nat) (o o' : AObj) : (h.put r o).put r o' = h.put r o' := by
  funext k; by_cases e : k = r <;> simp [Heap.put, e]
theorem Heap.put_comm (h : Heap) {r r' : Nat} (o o' : AObj) (hne : r ≠ r') : (h.put r o).put r' o' = (h.put r' o').put r o := by
  funext k; by_cases e : k = r <;> by_cases e' : k = r' <;> simp [Heap.put, e, e'] <;> omega
theorem Heap.del_put (h : Heap) (r : Nat) (o : AObj) (hn : h r = none) : (h.put r o).del r = h := by
  funext k; by_cases e : k = r <;> simp [Heap.put, Heap.del, e, hn]
theorem Heap.del_same (h : Heap) (r : Nat) : h.del r r = none := by simp [Heap.del]
theorem Heap.del_ne (h : Heap) {r k : Nat} (hk : k ≠ r) : h.del r k = h k := by simp [Heap.del, hk]

def byteVals (l : List UInt8) : List Value := l.map fun b => .int .u8 b.toNat

def RM (w : World) (I : Nat → Prop) (ka va : Bool) : List (List PV × List PV × Nat) → List MapEntry → Prop
  | [], ents => ents = []
  | x :: es, ents => ∃ ku vu ents', ents = ⟨ofCells ka ku, ofCells va vu, x.2.2⟩ :: ents' ∧ RL w I x.1 ku ∧ RL w I x.2.1 vu ∧ RM w I ka va es ents'
theorem RM.keeps {w w' : World} {I I' : Nat → Prop} (hk : Keeps w I w' I') {ka va : Bool} : ∀ (es : List (List PV × List PV × Nat)) (ents : List MapEntry), RM w I ka va es ents → RM w' I' ka va es ents
  | [], _, h => h
  | _ :: es, _, ⟨ku, vu, ents', e, h1, h2, h3⟩ => ⟨ku, vu, ents', e, RL.keeps hk _ _ h1, RL.keeps hk _ _ h2, RM.keeps hk es ents' h3⟩
def RObj (w : World) (I : Nat → Prop) (G : Nat → Option Nat) (r : Nat) : AObj → Prop
  | .cells t size cs => ∃ us rest, w.heap[r]? = some (.cells (us ++ rest).toArray t (0, 0)) ∧ RL w I cs us ∧ us.length + rest.length = size
  | .iter s pos => w.heap[r]? = some (.stringIter ⟨s.toArray⟩ pos)
  | .pmap ks => w.heap[r]? = some (pairMap ks)
  | .miter m since seen => w.heap[r]? = some (.mapIter (some m) since seen.toArray since)
  | .gmap ka va es n => ∃ ents : List MapEntry, w.heap[r]? = some (.map ents.toArray n) ∧ RM w I ka va es ents
  | .bld T e bs =>
    (bs = [] ∧ ∃ p, (p = none ∨ p = some ⟨r, 0, none⟩) ∧ w.heap[r]? = some (.cells #[.pointer p, .slice none 0 0] T (0, 0))) ∨
    (∃ k cap rest, G k = some r ∧ w.heap[r]? = some (.cells #[.pointer (some ⟨r, 0, none⟩), .slice (some ⟨k, 0, none⟩) bs.length cap] T (0, 0)) ∧
      w.heap[k]? = some (.cells (byteVals bs ++ rest).toArray e (0, 0)) ∧ bs.length + rest.length = cap ∧ cap ≤ maxLen ∧ 0 < cap)

inductive TK where
  | int (k : IntKind) | bool | str | float (k : FloatKind) | ptr (e : TypeId) | slice (e : TypeId) | struct (fs : List (Nat × TypeId)) | array (n : Nat) (e : TypeId)
  | map (k e : TypeId) | func | iface | uptr
structure TyI where
  k : TK
  size : Nat
  bytes : Nat
  zero : List Value
def TK.isAgg : TK → Bool
  | .struct _ | .array _ _ => true
  | _ => false
def TK.desc (P : Program) (t : TypeId) : TK → Prop
  | .int k => P.underlying t = some (.int k)
  | .bool => P.underlying t = some .bool
  | .str => P.underlying t = some .string
  | .float k => P.underlying t = some (.float k)
  | .ptr e => P.underlying t = some (.pointer e)
  | .slice e => P.underlying t = some (.slice e)
  | .struct fs => ∃ fields, P.underlying t = some (.struct fields) ∧ fields.toList.map (fun f => (f.offset, f.type)) = fs
  | .array n e => P.underlying t = some (.array n e)
  | .map k e => P.underlying t = some (.map k e)
  | .func => ∃ ps rs v, P.underlying t = some (.func ps rs v)
  | .iface => ∃ ms, P.underlying t = some (.interface ms)
  | .uptr => P.underlying t = some .unsafePointer
structure Agrees (P : Program) (t : TypeId) (i : TyI) : Prop where
  desc : i.k.desc P t
  info : (P.info? t).map (fun j => (j.size, j.bytes, j.zero.map fun z => (z.cells.toList, match z with | .agg _ => true | _ => false))) = some (i.size, i.bytes, some (i.zero, i.k.isAgg))
def AllAgree (P : Program) : List (TypeId × TyI) → Prop
  | [] => True
  | x :: l => Agrees P x.1 x.2 ∧ AllAgree P l
def look {α : Type} : List (Nat × α) → Nat → Option α
  | [], _ => none
  | x :: l, t => if x.1 = t then some x.2 else look l t
theorem AllAgree.look {P : Program} : ∀ {l : List (TypeId × TyI)}, AllAgree P l → ∀ {t i}, Lift.look l t = some i → Agrees P t i
  | [], _, _, _, h => by simp [Lift.look] at h
  | x :: l, ⟨h1, h2⟩, t, i, h => by
    simp only [Lift.look] at h
    split at h
    · rename_i e; cases h; subst e; exact h1
    · exact h2.look h

structure Env where
  P : Program
  tab : List (TypeId × TyI)
  gl : List (Nat × List PV)
  ok : AllAgree P tab
  winv : World → (Nat → Prop) → Prop
  keepW : ∀ w I w' I', Keeps w I w' I' → winv w I → winv w' I'
  D : List Deferred
  mono : Bool
def Env.ty (E : Env) (t : TypeId) : Option TyI := look E.tab t

structure Good (E : Env) (w : World) (I : Nat → Prop) (G : Nat → Option Nat) (h : Heap) : Prop where
  own : ∀ r o, h r = some o → r < w.heap.size ∧ ¬ I r ∧ G r = none ∧ RObj w I G r o
  hid : ∀ k r, G k = some r → k < w.heap.size ∧ ¬ I k ∧ h k = none ∧ ∃ T e bs, h r = some (.bld T e bs)
  imm : ∀ k, I k → k < w.heap.size
  glob : ∀ g cs, look E.gl g = some cs → R1 w I (.elem cs) (.pointer (some ⟨g, 0, none⟩))
  inv : E.winv w I

structure Stp (m : Bool) (w : World) (I : Nat → Prop) (G : Nat → Option Nat) (h : Heap) (w' : World) (I' : Nat → Prop) (G' : Nat → Option Nat) (h' : Heap) : Prop where
  os : w'.os = w.os
  tape : w'.tape = w.tape
  output : w'.output = w.output
  size : w.heap.size ≤ w'.heap.size
  keep : ∀ k, k < w.heap.size → h k = none → G k = none → w'.heap[k]? = w.heap[k]? ∧ h' k = none ∧ G' k = none
  imm : ∀ k, I k → I' k
  far : ∀ k, k < w.heap.size → h k = none → G k = none → I' k → I k
  drawn : m = true → w.drawn ≤ w'.drawn

theorem Stp.refl {m : Bool} (w : World) (I : Nat → Prop) (G : Nat → Option Nat) (h : Heap) : Stp m w I G h w I G h :=
  ⟨rfl, rfl, rfl, Nat.le_refl _, fun _ _ a b => ⟨rfl, a, b⟩, fun _ h => h, fun _ _ _ _ h => h, fun _ => Nat.le_refl _⟩
theorem Stp.trans {m : Bool} {w w1 w2 : World} {I I1 I2 : Nat → Prop} {G G1 G2 : Nat → Option Nat} {h h1 h2 : Heap} (s : Stp m w I G h w1 I1 G1 h1) (t : Stp m w1 I1 G1 h1 w2 I2 G2 h2) : Stp m w I G h w2 I2 G2 h2 :=
  ⟨t.os.trans s.os, t.tape.trans s.tape, t.output.trans s.output, Nat.le_trans s.size t.size,
   fun k hk a b => by
     obtain ⟨e, a1, b1⟩ := s.keep k hk a b
     obtain ⟨e2, a2, b2⟩ := t.keep k (Nat.lt_of_lt_of_le hk s.size) a1 b1
     exact ⟨e2.trans e, a2, b2⟩,
   fun k hk => t.imm k (s.imm k hk),
   fun k hk a b hi => by
     obtain ⟨_, a1, b1⟩ := s.keep k hk a b
     exact s.far k hk a b (t.far k (Nat.lt_of_lt_of_le hk s.size) a1 b1 hi),
   fun e => Nat.le_trans (s.drawn e) (t.drawn e)⟩
theorem Good.unowned {E : Env} {w : World} {I : Nat → Prop} {G : Nat → Option Nat} {h : Heap} (g : Good E w I G h) {k : Nat} (hk : I k) : h k = none ∧ G k = none := by
  constructor
  · cases e : h k with
    | none => rfl
    | some o => exact absurd hk (g.own k o e).2.1
  · cases e : G k with
    | none => rfl
    | some r => exact absurd hk (g.hid k r e).2.1
theorem Stp.keeps {E : Env} {w w' : World} {I I' : Nat → Prop} {G G' : Nat → Option Nat} {h h' : Heap} (s : Stp E.mono w I G h w' I' G' h') (g : Good E w I G h) : Keeps w I w' I' :=
  fun k hk => ⟨s.imm k hk, (s.keep k (g.imm k hk) (g.unowned hk).1 (g.unowned hk).2).1⟩

structure AS where
  n : Nat
  s : List (Nat × PV)
  h : Heap
def AS.get (a : AS) (t : Nat) : PV := (look a.s t).getD .any
def dropKey (s : List (Nat × PV)) (d : Nat) : List (Nat × PV) :=
  match s with
  | [] => []
  | x :: l => if x.1 = d then dropKey l d else x :: dropKey l d
def AS.put (a : AS) (dst : Option Tmp) (v : PV) : AS :=
  match dst with
  | some d => { a with s := (d, v) :: dropKey a.s d }
  | none => a
def okDst (n : Nat) : Option Tmp → Bool
  | some d => decide (d < n)
  | none => true

def ofVal : Value → PV
  | .int k n => .int k n
  | .bool b => .bool b
  | .string s => .str s.data.toList
  | .agg _ | .tuple _ => .any
  | v => .val v
def ofConst : Value → PV
  | .agg cs => if cs.toList.all Value.oneCell' then .agg (cs.toList.map ofVal) else .any
  | v => ofVal v
def AS.eval (E : Env) (a : AS) : Operand → PV
  | .tmp t => a.get t
  | .const v => ofConst v
  | .global g => match look E.gl g with | some cs => .elem cs | none => .val (.pointer (some ⟨g, 0, none⟩))
  | .func f => .val (.func (.func f) #[] #[])

structure RS (E : Env) (w : World) (I : Nat → Prop) (a : AS) (act : Act) : Prop where
  defers : act.defers = E.D
  size : act.tmps.size = a.n
  slot : ∀ t, R w I (a.get t) (act.tmps.getD t undef)

theorem RS.keeps {E : Env} {w w' : World} {I I' : Nat → Prop} (hk : Keeps w I w' I') {a : AS} {act : Act} (h : RS E w I a act) : RS E w' I' a act :=
  ⟨h.defers, h.size, fun t => R.keeps hk _ _ (h.slot t)⟩

theorem look_dropKey_ne (s : List (Nat × PV)) {d t : Nat} (h : t ≠ d) : look (dropKey s d) t = look s t := by
  induction s with
  | nil => rfl
  | cons x l ih =>
    unfold dropKey
    split
    · rename_i e; simp only [look]; rw [if_neg (by omega)]; exact ih
    · simp only [look, ih]
theorem AS.get_put (a : AS) (d : Nat) (v : PV) (t : Nat) : (a.put (some d) v).get t = if t = d then v else a.get t := by
  unfold AS.put AS.get
  simp only [look]
  by_cases e : d = t
  · subst e; simp
  · rw [if_neg e, if_neg (fun h => e h.symm), look_dropKey_ne _ (fun h => e h.symm)]

theorem RS.put {E : Env} {w : World} {I : Nat → Prop} {a : AS} {act : Act} (h : RS E w I a act) {dst : Option Tmp} (hd : okDst a.n dst = true) {v : PV} {u : Value} (hv : R w I v u) : RS E w I (a.put dst v) (act.put dst u) := by
  cases dst with
  | none => exact h
  | some d =>
    have hd' : d < a.n := of_decide_eq_true hd
    refine ⟨h.defers, ?_, fun t => ?_⟩
    · show (act.tmps.setIfInBounds d u).size = a.n
      rw [Array.size_setIfInBounds]; exact h.size
    · rw [AS.get_put]
      show R w I _ ((act.tmps.setIfInBounds d u).getD t undef)
      by_cases e : t = d
      · subst e
        rw [if_pos rfl]
        simp [Array.getD, h.size, hd']
        exact hv
      · rw [if_neg e]
        have := h.slot t
        simp only [Array.getD_eq_getD_getElem?] at this ⊢
        rw [Array.getElem?_setIfInBounds_ne (fun x => e x.symm)]
        exact this

theorem RL_ofVal (w : World) (I : Nat → Prop) : ∀ (us : List Value), (∀ u ∈ us, u.oneCell' = true) → RL w I (us.map ofVal) us
  | [], _ => rfl
  | u :: us, h => by
    refine ⟨u, us, rfl, ?_, RL_ofVal w I us (fun x hx => h x (List.mem_cons_of_mem _ hx))⟩
    have h1 := h u (List.mem_cons_self ..)
    cases u <;> simp [ofVal, R1, Value.oneCell'] at h1 ⊢
end Go.Proofs.YtpgnfbdkhakbdaaGreatDoor.Lift

namespace Go.Proofs.YtpgnfbdkhakbdaaGreatDoor.Lift
open Go Go.RowKit

section
variable {E : Env} {w w1 w' : World} {I I1 I' : Nat → Prop} {G G1 G' : Nat → Option Nat}

def Post (E : Env) (w : World) (I : Nat → Prop) (G : Nat → Option Nat) (h : Heap) (Q : Exit → AS → Prop) : Exit → Act → World → Prop :=
  fun e act w' => ∃ a I' G', Good E w' I' G' a.h ∧ RS E w' I' a act ∧ Stp E.mono w I G h w' I' G' a.h ∧ Q e a
def SW (E : Env) (c : Code) (Q : Exit → AS → Prop) (a : AS) : Prop :=
  ∀ w I G act, Good E w I G a.h → RS E w I a act → c.wp E.P (Post E w I G a.h Q) act w
def SWO (E : Env) (ops : Array Oper) (rest : List Oper) (Q : Exit → AS → Prop) (a : AS) : Prop :=
  ∀ w I G act, Good E w I G a.h → RS E w I a act → wpList E.P ops (Post E w I G a.h Q) rest act w

theorem Post.trans {h h1 : Heap} {Q : Exit → AS → Prop} (s : Stp E.mono w I G h w1 I1 G1 h1) {e : Exit} {act : Act} (p : Post E w1 I1 G1 h1 Q e act w') : Post E w I G h Q e act w' := by
  obtain ⟨a, I', G', g, r, t, q⟩ := p
  exact ⟨a, I', G', g, r, s.trans t, q⟩
theorem Post.mono {h : Heap} {Q Q' : Exit → AS → Prop} (hq : ∀ e a, Q e a → Q' e a) {e : Exit} {act : Act} (p : Post E w I G h Q e act w') : Post E w I G h Q' e act w' := by
  obtain ⟨a, I', G', g, r, t, q⟩ := p
  exact ⟨a, I', G', g, r, t, hq _ _ q⟩

theorem SW.mono {c : Code} {Q Q' : Exit → AS → Prop} {a : AS} (h : SW E c Q a) (hq : ∀ e a, Q e a → Q' e a) : SW E c Q' a :=
  fun w I G act g r => wp_mono (h w I G act g r) fun _ _ _ p => p.mono hq

def thenQ (N : AS → Prop) (Q : Exit → AS → Prop) : Exit → AS → Prop
  | .normal, a => N a
  | e, a => Q e a
def inQ (id : Nat) (Q : Exit → AS → Prop) : Exit → AS → Prop
  | .exit id', a => if id' = id then Q .normal a else Q (.exit id') a
  | e, a => Q e a

theorem SW.seq {x y : Code} {Q : Exit → AS → Prop} {a : AS} (h : SW E x (thenQ (SW E y Q) Q) a) : SW E (.seq x y) Q a := by
  intro w I G act g r
  refine wp_seq (wp_mono (h w I G act g r) ?_)
  intro e act' w' ⟨a', I', G', g', r', s', q⟩
  cases e with
  | normal => exact wp_mono (q w' I' G' act' g' r') fun _ _ _ p => p.trans s'
  | exit id => exact ⟨a', I', G', g', r', s', q⟩
  | goto l => exact ⟨a', I', G', g', r', s', q⟩
  | ret => exact ⟨a', I', G', g', r', s', q⟩
  | panic c => exact ⟨a', I', G', g', r', s', q⟩
  | outgrown => exact ⟨a', I', G', g', r', s', q⟩
theorem SW.cut {x y : Code} {Q : Exit → AS → Prop} {a : AS} (M : AS → Prop) (h : SW E x (thenQ M Q) a) (k : ∀ a, M a → SW E y Q a) : SW E (.seq x y) Q a :=
  SW.seq (h.mono fun e a q => by cases e <;> first | exact k a q | exact q)
theorem SW.skip {Q : Exit → AS → Prop} {a : AS} (h : Q .normal a) : SW E .skip Q a :=
  fun w I G act g r => wp_skip ⟨a, I, G, g, r, .refl .., h⟩
theorem SW.label {l : Nat} {Q : Exit → AS → Prop} {a : AS} (h : Q .normal a) : SW E (.label l) Q a :=
  fun w I G act g r => wp_label ⟨a, I, G, g, r, .refl .., h⟩
theorem SW.exit {id : Nat} {Q : Exit → AS → Prop} {a : AS} (h : Q (.exit id) a) : SW E (.exit id) Q a :=
  fun w I G act g r => wp_exit ⟨a, I, G, g, r, .refl .., h⟩
theorem SW.ret {Q : Exit → AS → Prop} {a : AS} (h : Q .ret a) : SW E .ret Q a :=
  fun w I G act g r => wp_ret ⟨a, I, G, g, r, .refl .., h⟩
theorem SW.block {id : Nat} {c : Code} {Q : Exit → AS → Prop} {a : AS} (h : SW E c (inQ id Q) a) : SW E (.block id c) Q a := by
  intro w I G act g r
  refine wp_block (wp_mono (h w I G act g r) ?_)
  intro e act' w' ⟨a', I', G', g', r', s', q⟩
  cases e with
  | normal => exact ⟨a', I', G', g', r', s', q⟩
  | exit id' =>
    simp only [Exit.inBlock]
    simp only [inQ] at q
    split
    · rename_i e; rw [if_pos e] at q; exact ⟨a', I', G', g', r', s', q⟩
    · rename_i e; rw [if_neg e] at q; exact ⟨a', I', G', g', r', s', q⟩
  | goto l => exact ⟨a', I', G', g', r', s', q⟩
  | ret => exact ⟨a', I', G', g', r', s', q⟩
  | panic c => exact ⟨a', I', G', g', r', s', q⟩
  | outgrown => exact ⟨a', I', G', g', r', s', q⟩
theorem SW.loop {c : Code} {Q : Exit → AS → Prop} {a : AS} (Inv : Nat → AS → Prop) (n₀ : Nat) (h₀ : Inv n₀ a)
    (round : ∀ n a, Inv n a → SW E c (thenQ (fun a' => ∃ n', n' < n ∧ Inv n' a') Q) a) : SW E (.loop c) Q a := by
  intro w I G act g r
  refine wp_loop_ghost (fun n act' w' => ∃ a' I' G', Good E w' I' G' a'.h ∧ RS E w' I' a' act' ∧ Stp E.mono w I G a.h w' I' G' a'.h ∧ Inv n a') n₀ ⟨a, I, G, g, r, .refl .., h₀⟩ ?_
  intro n act' w' ⟨a', I', G', g', r', s', q⟩
  refine wp_mono (round n a' q w' I' G' act' g' r') ?_
  intro e act2 w2 ⟨a2, I2, G2, g2, r2, s2, q2⟩
  cases e with
  | normal => obtain ⟨n', hl, hi⟩ := q2; exact ⟨n', hl, a2, I2, G2, g2, r2, s'.trans s2, hi⟩
  | exit id => exact ⟨a2, I2, G2, g2, r2, s'.trans s2, q2⟩
  | goto l => exact ⟨a2, I2, G2, g2, r2, s'.trans s2, q2⟩
  | ret => exact ⟨a2, I2, G2, g2, r2, s'.trans s2, q2⟩
  | panic c => exact ⟨a2, I2, G2, g2, r2, s'.trans s2, q2⟩
  | outgrown => exact ⟨a2, I2, G2, g2, r2, s'.trans s2, q2⟩

theorem R_ofConst (w : World) (I : Nat → Prop) (v : Value) : R w I (ofConst v) v := by
  cases v with
  | agg cs =>
    simp only [ofConst]
    split
    · rename_i h
      exact ⟨cs.toList, by simp, RL_ofVal w I _ (fun u hu => by rw [List.all_eq_true] at h; exact h u hu)⟩
    · trivial
  | _ => simp [ofConst, ofVal, R, R0, R1, Value.oneCell']
theorem RS.eval {a : AS} {act : Act} (g : Good E w I G a.h) (r : RS E w I a act) (x : Operand) : R w I (a.eval E x) (act.eval x) := by
  cases x with
  | tmp t => exact r.slot t
  | const v => exact R_ofConst w I v
  | global gl =>
    simp only [AS.eval, Act.eval]
    cases e : look E.gl gl with
    | none => exact ⟨rfl, rfl⟩
    | some cs => exact g.glob _ _ e
  | func f => exact ⟨rfl, rfl⟩
theorem RS.eval_tmp {a : AS} {act : Act} (r : RS E w I a act) (t : Nat) : R w I (a.get t) (act.eval (.tmp t)) := r.slot t

theorem SW.cond {t : Nat} {x y : Code} {b : Bool} {Q : Exit → AS → Prop} {a : AS} (hc : a.get t = .bool b) (h : SW E (if b then x else y) Q a) : SW E (.cond (.tmp t) x y) Q a := by
  intro w I G act g r
  have := r.eval_tmp t
  rw [hc] at this
  exact wp_cond this (h w I G act g r)
def AS.keep (a : AS) (l : List Nat) : AS := { a with s := a.s.filter fun x => l.contains x.1 }
theorem look_filter (p : Nat → Bool) (t : Nat) : ∀ s : List (Nat × PV), look (s.filter fun x => p x.1) t = if p t then look s t else none
  | [] => by simp [look]
  | x :: s => by
    by_cases hx : p x.1 = true
    · rw [List.filter_cons_of_pos (by simpa using hx)]
      simp only [look, look_filter p t s]
      by_cases e : x.1 = t
      · simp [← e, hx]
      · simp [e]
    · rw [List.filter_cons_of_neg (by simpa using hx), look_filter p t s]
      simp only [look]
      by_cases e : x.1 = t
      · subst e; simp [hx]
      · simp [e]
theorem RS.weaken {a b : AS} {act : Act} (r : RS E w I a act) (hn : b.n = a.n) (h : ∀ t, b.get t = a.get t ∨ b.get t = .any) : RS E w I b act :=
  ⟨r.defers, r.size.trans hn.symm, fun t => by
    rcases h t with e | e
    · rw [e]; exact r.slot t
    · rw [e]; trivial⟩
theorem AS.get_keep (a : AS) (l : List Nat) (t : Nat) : (a.keep l).get t = a.get t ∨ (a.keep l).get t = .any := by
  unfold AS.keep AS.get
  simp only [look_filter (fun k => l.contains k)]
  split
  · exact .inl rfl
  · exact .inr rfl
theorem SW.keep {c : Code} {Q : Exit → AS → Prop} {a : AS} (l : List Nat) (h : SW E c Q (a.keep l)) : SW E c Q a :=
  fun w I G act g r => h w I G act g (r.weaken rfl (AS.get_keep a l))
theorem SW.weaken {c : Code} {Q : Exit → AS → Prop} {a : AS} (b : AS) (hn : b.n = a.n) (hh : b.h = a.h) (hs : ∀ t, b.get t = a.get t ∨ b.get t = .any) (h : SW E c Q b) : SW E c Q a :=
  fun w I G act g r => by
    have := h w I G act (hh ▸ g) (r.weaken hn hs)
    rw [hh] at this
    exact this

theorem SW.region {id : Nat} {l : List Oper} {Q : Exit → AS → Prop} {a : AS} (h : SWO E l.toArray l Q a) : SW E (.region id l.toArray false) Q a :=
  fun w I G act g r => wp_region_lit (h w I G act g r)
theorem SWO.nil {ops : Array Oper} {Q : Exit → AS → Prop} {a : AS} (h : Q .normal a) : SWO E ops [] Q a :=
  fun w I G act g r => wpList_nil ⟨a, I, G, g, r, .refl .., h⟩
theorem LetsOut.mono {Q Q' : Exit → Act → World → Prop} (hq : ∀ e a w, Q e a w → Q' e a w) (h : LetsOut Q) : LetsOut Q' := by
  obtain ⟨a, w, h⟩ := h
  exact ⟨a, w, hq _ _ _ h⟩
theorem upon_mono {P : Program} {o : Oper} {a : Act} {K K' : Act → World → Prop} {Q Q' : Exit → Act → World → Prop} (hk : ∀ a w, K a w → K' a w) (hq : ∀ e a w, Q e a w → Q' e a w) {r : Result Next}
    (h : o.upon P a K Q r) : o.upon P a K' Q' r := by
  cases r with
  | ok n w =>
    cases n with
    | value v => exact hk _ _ h
    | skip => exact hk _ _ h
    | defer d => exact hk _ _ h
    | enter f args =>
      rw [Oper.upon_enter] at h ⊢
      refine h.mono ?_
      intro e w' hh
      cases e with
      | returned v => exact hk _ _ hh
      | panicked c => exact hq _ _ _ hh
      | outgrown => exact LetsOut.mono hq hh
    | row row args => exact Rows.mono h fun _ _ hh => hk _ _ hh
    | _ => exact h
  | halt x w =>
    cases x with
    | panic v => exact hq _ _ _ h
    | _ => exact h
theorem wpList_mono {P : Program} {ops : Array Oper} {Q Q' : Exit → Act → World → Prop} (hq : ∀ e a w, Q e a w → Q' e a w) : ∀ (rest : List Oper) (a : Act) (w : World), wpList P ops Q rest a w → wpList P ops Q' rest a w
  | [], _, _, h => hq _ _ _ h
  | o :: rest, a, w, h => by
    unfold wpList at h ⊢
    split
    · rename_i hw
      rw [if_pos hw] at h
      rcases h with h | ⟨h1, h2⟩
      · exact .inl (upon_mono (fun a w => wpList_mono hq rest a w) hq h)
      · exact .inr ⟨h1, LetsOut.mono hq h2⟩
    · rename_i hw
      rw [if_neg hw] at h
      exact wpList_mono hq rest _ _ h
theorem SWO.mono {ops : Array Oper} {rest : List Oper} {Q Q' : Exit → AS → Prop} {a : AS} (h : SWO E ops rest Q a) (hq : ∀ e a, Q e a → Q' e a) : SWO E ops rest Q' a :=
  fun w I G act g r => wpList_mono (fun _ _ _ p => p.mono hq) _ _ _ (h w I G act g r)
theorem SWO.on {ops : Array Oper} {rest : List Oper} {Q : Exit → AS → Prop} {a : AS} {h : Heap} (k : SWO E ops rest Q a) (s : Stp E.mono w I G h w1 I1 G1 a.h) {act : Act} (g : Good E w1 I1 G1 a.h) (r : RS E w1 I1 a act) :
    wpList E.P ops (Post E w I G h Q) rest act w1 :=
  wpList_mono (fun _ _ _ p => p.trans s) _ _ _ (k w1 I1 G1 act g r)

def wantedA (ops : Array Oper) (a : AS) (o : Oper) : Option Bool :=
  match o.guard with
  | none => some true
  | some (j, b) => match (ops[j]?).bind (·.dst) with
    | some d => match a.get d with
      | .bool c => some (c == b)
      | .tuple [] => some false
      | _ => none
    | none => none
theorem RS.wanted {ops : Array Oper} {a : AS} {act : Act} {o : Oper} {x : Bool} (r : RS E w I a act) (h : wantedA ops a o = some x) : Region.wanted o (yielded ops act.tmps) = x := by
  unfold wantedA at h
  unfold Region.wanted
  split at h
  · rename_i e; rw [e]; injection h
  · rename_i j b e
    rw [e]
    split at h
    · rename_i d hd
      split at h
      · rename_i c hc
        injection h with h
        have := r.slot d
        rw [hc] at this
        have hs : act.tmps.getD d undef = .bool c := this
        have : act.tmps[d]? = some (.bool c) := by
          rw [Array.getD_eq_getD_getElem?] at hs
          cases e2 : act.tmps[d]? with
          | none => rw [e2] at hs; cases hs
          | some u => rw [e2] at hs; simpa using hs
        simp only [yielded, hd, Option.bind_some, this]
        rw [← h]
        cases c <;> cases b <;> rfl
      · rename_i hc
        injection h with h
        have := r.slot d
        rw [hc] at this
        obtain ⟨us, hs, hu⟩ := this
        have hu : us = [] := hu
        subst hu
        have hs : act.tmps.getD d undef = .tuple #[] := hs
        rw [← h]
        rw [Array.getD_eq_getD_getElem?] at hs
        simp only [yielded, hd, Option.bind_some]
        cases e2 : act.tmps[d]? with
        | none => rfl
        | some u =>
          rw [e2] at hs
          simp only [Option.getD_some] at hs
          subst hs
          rfl
      · cases h
    · cases h

theorem SWO.val {ops : Array Oper} {o : Oper} {rest : List Oper} {Q : Exit → AS → Prop} {a : AS} (v : PV) (hg : wantedA ops a o = some true) (hd : okDst a.n o.dst = true)
    (hrun : ∀ w I G act, Good E w I G a.h → RS E w I a act → ∃ u, (execOp act.eval o).run E.P w = .ok (.value u) w ∧ R w I v u)
    (k : SWO E ops rest Q (a.put o.dst v)) : SWO E ops (o :: rest) Q a := by
  intro w I G act g r
  obtain ⟨u, hu, hv⟩ := hrun w I G act g r
  unfold wpList
  rw [if_pos (r.wanted hg)]
  refine .inl ?_
  unfold Oper.wp
  rw [hu]
  have hh : (a.put o.dst v).h = a.h := by cases o.dst <;> rfl
  have := k w I G (act.put o.dst u) (hh ▸ g) (r.put hd hv)
  rw [hh] at this
  exact this
theorem SWO.off {ops : Array Oper} {o : Oper} {rest : List Oper} {Q : Exit → AS → Prop} {a : AS} (hg : wantedA ops a o = some false) (hd : okDst a.n o.dst = true)
    (k : SWO E ops rest Q (a.put o.dst (.tuple []))) : SWO E ops (o :: rest) Q a := by
  intro w I G act g r
  unfold wpList
  rw [if_neg (by rw [r.wanted hg]; simp)]
  have hh : (a.put o.dst (.tuple [])).h = a.h := by cases o.dst <;> rfl
  have := k w I G (act.put o.dst undef) (hh ▸ g) (r.put hd ⟨[], rfl, rfl⟩)
  rw [hh] at this
  exact this
theorem SWO.to {ops : Array Oper} {o : Oper} {rest : List Oper} {Q : Exit → AS → Prop} {a : AS} (hg : wantedA ops a o = some true) (hd : okDst a.n o.dst = true)
    (hrun : ∀ w I G act, Good E w I G a.h → RS E w I a act → ∃ n u w' I' G' h' v, (execOp act.eval o).run E.P w = .ok n w' ∧ (n = .value u ∨ n = .skip ∧ u = undef) ∧ Good E w' I' G' h' ∧ Stp E.mono w I G a.h w' I' G' h' ∧ R w' I' v u ∧
      SWO E ops rest Q { a.put o.dst v with h := h' }) : SWO E ops (o :: rest) Q a := by
  intro w I G act g r
  obtain ⟨n, u, w', I', G', h', v, hu, hn, g', s, hv, k⟩ := hrun w I G act g r
  unfold wpList
  rw [if_pos (r.wanted hg)]
  refine .inl ?_
  have hr : RS E w' I' { a.put o.dst v with h := h' } (act.put o.dst u) := by
    have r1 := (r.keeps (s.keeps g)).put hd hv
    exact ⟨r1.defers, r1.size, r1.slot⟩
  unfold Oper.wp
  rw [hu]
  rcases hn with rfl | ⟨rfl, rfl⟩ <;> exact SWO.on k s g' hr
end
end Go.Proofs.YtpgnfbdkhakbdaaGreatDoor.Lift

namespace Go.Proofs.YtpgnfbdkhakbdaaGreatDoor.Lift
open Go Go.RowKit

section
variable {E : Env} {w w1 w' : World} {I I1 I' : Nat → Prop} {G G1 G' : Nat → Option Nat}

theorem R1.one : ∀ {x : PV} {u : Value}, R1 w I x u → u.oneCell' = true
  | .int .., _, h => by simp only [R1] at h; subst h; rfl
  | .bool .., _, h => by simp only [R1] at h; subst h; rfl
  | .str .., _, h => by simp only [R1] at h; subst h; rfl
  | .val .., _, h => by simp only [R1] at h; rw [h.1]; exact h.2
  | .list .., _, h => by simp only [R1] at h; obtain ⟨A, c, us, rfl, _⟩ := h; rfl
  | .elem .., _, h => by simp only [R1] at h; obtain ⟨A, us, rfl, _⟩ := h; rfl
  | .iface .., _, h => by simp only [R1] at h; obtain ⟨us, rfl, _⟩ := h; rfl
  | .any, _, h => by simpa only [R1] using h
  | .cap0, _, h => by simp only [R1] at h; obtain ⟨A, rfl⟩ := h; rfl
theorem RL.length : ∀ {xs : List PV} {us : List Value}, RL w I xs us → us.length = xs.length
  | [], _, h => by simp only [RL] at h; simp [h]
  | x :: xs, _, h => by simp only [RL] at h; obtain ⟨u, us', rfl, _, h2⟩ := h; simp [h2.length]
theorem RL.one : ∀ {xs : List PV} {us : List Value}, RL w I xs us → ∀ u ∈ us, u.oneCell' = true
  | [], _, h, u, hu => by simp only [RL] at h; subst h; cases hu
  | x :: xs, _, h, u, hu => by
    simp only [RL] at h
    obtain ⟨v, us', rfl, h1, h2⟩ := h
    rcases List.mem_cons.1 hu with rfl | hu
    · exact h1.one
    · exact h2.one u hu
theorem RL.get : ∀ {xs : List PV} {us : List Value}, RL w I xs us → ∀ {j : Nat} {x : PV}, xs[j]? = some x → ∃ u, us[j]? = some u ∧ R1 w I x u
  | [], _, h, j, x, hx => by simp at hx
  | y :: xs, _, h, j, x, hx => by
    simp only [RL] at h
    obtain ⟨v, us', rfl, h1, h2⟩ := h
    cases j with
    | zero => simp at hx; subst hx; exact ⟨v, rfl, h1⟩
    | succ j => simpa using h2.get (by simpa using hx)
theorem RL.append : ∀ {xs ys : List PV} {us vs : List Value}, RL w I xs us → RL w I ys vs → RL w I (xs ++ ys) (us ++ vs)
  | [], _, _, _, h, k => by simp only [RL] at h; subst h; exact k
  | x :: xs, ys, _, vs, h, k => by
    simp only [RL] at h
    obtain ⟨v, us', rfl, h1, h2⟩ := h
    show RL w I (x :: (xs ++ ys)) _
    simp only [RL]
    exact ⟨v, us' ++ vs, rfl, h1, h2.append k⟩
theorem RL.take : ∀ {xs : List PV} {us : List Value}, RL w I xs us → ∀ n, RL w I (xs.take n) (us.take n)
  | [], _, h, n => by simp only [RL] at h; subst h; simp [RL]
  | x :: xs, _, h, 0 => by simp [RL]
  | x :: xs, _, h, n + 1 => by
    simp only [RL] at h
    obtain ⟨v, us', rfl, h1, h2⟩ := h
    simp only [List.take_succ_cons, RL]
    exact ⟨v, us'.take n, rfl, h1, h2.take n⟩
theorem RL.drop : ∀ {xs : List PV} {us : List Value}, RL w I xs us → ∀ n, RL w I (xs.drop n) (us.drop n)
  | [], _, h, n => by simp only [RL] at h; subst h; simp [RL]
  | x :: xs, _, h, 0 => h
  | x :: xs, _, h, n + 1 => by
    simp only [RL] at h
    obtain ⟨v, us', rfl, h1, h2⟩ := h
    simpa using h2.drop n
theorem RL.set : ∀ {xs : List PV} {us : List Value}, RL w I xs us → ∀ (j : Nat) {x : PV} {u : Value}, R1 w I x u → RL w I (xs.set j x) (us.set j u)
  | [], _, h, j, _, _, _ => by simp only [RL] at h; subst h; simp [RL]
  | y :: xs, _, h, j, x, u, hx => by
    simp only [RL] at h
    obtain ⟨v, us', rfl, h1, h2⟩ := h
    cases j with
    | zero => simp only [List.set_cons_zero, RL]; exact ⟨u, us', rfl, hx, h2⟩
    | succ j => simp only [List.set_cons_succ, RL]; exact ⟨v, us'.set j u, rfl, h1, h2.set j hx⟩

theorem RE.length {sz : Nat} : ∀ {xs : List (List PV)} {us : List Value}, RE w I sz xs us → us.length = xs.length * sz
  | [], _, h => by simp only [RE] at h; simp [h]
  | x :: xs, _, h => by
    simp only [RE] at h
    obtain ⟨u1, u2, rfl, h1, _, h2⟩ := h
    simp [h1, h2.length, Nat.add_mul, Nat.add_comm]
theorem RE.one {sz : Nat} : ∀ {xs : List (List PV)} {us : List Value}, RE w I sz xs us → ∀ u ∈ us, u.oneCell' = true
  | [], _, h, u, hu => by simp only [RE] at h; subst h; cases hu
  | x :: xs, _, h, u, hu => by
    simp only [RE] at h
    obtain ⟨u1, u2, rfl, h1, h3, h2⟩ := h
    rcases List.mem_append.1 hu with hu | hu
    · exact h3.one u hu
    · exact h2.one u hu
theorem RE.flat {sz : Nat} : ∀ {xs : List (List PV)} {us : List Value}, RE w I sz xs us → RL w I xs.flatten us
  | [], _, h => by simp only [RE] at h; subst h; simp [RL]
  | x :: xs, _, h => by
    simp only [RE] at h
    obtain ⟨u1, u2, rfl, h1, h3, h2⟩ := h
    simpa using h3.append h2.flat
theorem RE.append {sz : Nat} : ∀ {xs ys : List (List PV)} {us vs : List Value}, RE w I sz xs us → RE w I sz ys vs → RE w I sz (xs ++ ys) (us ++ vs)
  | [], _, _, _, h, k => by simp only [RE] at h; subst h; exact k
  | x :: xs, ys, _, vs, h, k => by
    simp only [RE] at h
    obtain ⟨u1, u2, rfl, h1, h3, h2⟩ := h
    show RE w I sz (x :: (xs ++ ys)) _
    simp only [RE]
    exact ⟨u1, u2 ++ vs, by simp, h1, h3, h2.append k⟩
theorem RE.take {sz : Nat} : ∀ {xs : List (List PV)} {us : List Value}, RE w I sz xs us → ∀ n, RE w I sz (xs.take n) (us.take (n * sz))
  | [], _, h, n => by simp only [RE] at h; subst h; simp [RE]
  | x :: xs, _, h, 0 => by simp [RE]
  | x :: xs, _, h, n + 1 => by
    simp only [RE] at h
    obtain ⟨u1, u2, rfl, h1, h3, h2⟩ := h
    simp only [List.take_succ_cons, RE]
    refine ⟨u1, u2.take (n * sz), ?_, h1, h3, h2.take n⟩
    rw [List.take_append, h1, List.take_of_length_le (by rw [h1, Nat.add_mul]; omega)]
    congr 2
    rw [Nat.add_mul]; omega
theorem RE.drop {sz : Nat} : ∀ {xs : List (List PV)} {us : List Value}, RE w I sz xs us → ∀ n, RE w I sz (xs.drop n) (us.drop (n * sz))
  | [], _, h, n => by simp only [RE] at h; subst h; simp [RE]
  | x :: xs, _, h, 0 => by simpa using h
  | x :: xs, _, h, n + 1 => by
    simp only [RE] at h
    obtain ⟨u1, u2, rfl, h1, h3, h2⟩ := h
    have := h2.drop n
    rw [show (n + 1) * sz = u1.length + n * sz by rw [h1, Nat.add_mul]; omega, List.drop_length_add_append]
    exact this
theorem RE.at {sz : Nat} {xs : List (List PV)} {us : List Value} (h : RE w I sz xs us) {i : Nat} {x : List PV} (hx : xs[i]? = some x) : ∃ u1, RL w I x u1 ∧ u1.length = sz ∧ ∀ j u, u1[j]? = some u → us[i * sz + j]? = some u := by
  have h1 := h.drop i
  have hi := List.getElem?_eq_some_iff.1 hx
  obtain ⟨hl, hg⟩ := hi
  rw [List.drop_eq_getElem_cons hl] at h1
  simp only [RE] at h1
  obtain ⟨u1, u2, e, e1, h3, _⟩ := h1
  refine ⟨u1, hg ▸ h3, e1, fun j u hj => ?_⟩
  have : (us.drop (i * sz))[j]? = some u := by
    rw [e, List.getElem?_append_left (List.getElem?_eq_some_iff.1 hj).1]; exact hj
  rwa [List.getElem?_drop] at this
theorem RE.width {sz : Nat} : ∀ {xs : List (List PV)} {us : List Value}, RE w I sz xs us → ∀ x ∈ xs, x.length = sz
  | [], _, _, x, hx => by cases hx
  | y :: xs, _, h, x, hx => by
    simp only [RE] at h
    obtain ⟨u1, u2, rfl, h1, h3, h2⟩ := h
    rcases List.mem_cons.1 hx with rfl | hx
    · rw [← h3.length, h1]
    · exact h2.width x hx
theorem RE_of_flat {sz : Nat} : ∀ {xs : List (List PV)} {us : List Value}, (∀ x ∈ xs, x.length = sz) → RL w I xs.flatten us → RE w I sz xs us
  | [], us, _, h => by simpa [RL, RE] using h
  | x :: xs, us, hw, h => by
    have hx := hw x (List.mem_cons_self ..)
    simp only [List.flatten_cons] at h
    simp only [RE]
    refine ⟨us.take sz, us.drop sz, (List.take_append_drop _ _).symm, ?_, ?_, ?_⟩
    · have := h.length; simp at this; simp; omega
    · have := h.take sz; rwa [List.take_append_of_le_length (by omega), List.take_of_length_le (by omega)] at this
    · refine RE_of_flat (fun y hy => hw y (List.mem_cons_of_mem _ hy)) ?_
      have := h.drop sz
      rwa [List.drop_append_of_le_length (by omega), List.drop_of_length_le (by omega), List.nil_append] at this

section
variable {t : TypeId} {i : TyI}
theorem Env.agrees (E : Env) (h : E.ty t = some i) : Agrees E.P t i := E.ok.look h
theorem ty_info (h : E.ty t = some i) : ∃ j z, E.P.info? t = some j ∧ j.size = i.size ∧ j.bytes = i.bytes ∧ j.zero = some z ∧ z.cells.toList = i.zero ∧ (i.k.isAgg = true → ∃ cs, z = .agg cs) ∧ (i.k.isAgg = false → ∀ cs, z ≠ .agg cs) := by
  have hi := (E.agrees h).info
  cases e : E.P.info? t with
  | none => rw [e] at hi; cases hi
  | some j =>
    rw [e] at hi
    simp only [Option.map_some, Option.some.injEq, Prod.mk.injEq] at hi
    obtain ⟨h1, h2, h3⟩ := hi
    cases e2 : j.zero with
    | none => rw [e2] at h3; cases h3
    | some z =>
      rw [e2] at h3
      simp only [Option.map_some, Option.some.injEq, Prod.mk.injEq] at h3
      refine ⟨j, z, rfl, h1, h2, e2, h3.1, fun hk => ?_, fun hk cs hc => ?_⟩
      · have := h3.2; rw [hk] at this
        cases z <;> simp at this
        exact ⟨_, rfl⟩
      · have := h3.2; rw [hk, hc] at this; simp at this
theorem ty_sizeOf (h : E.ty t = some i) (w : World) : (sizeOf t).run E.P w = .ok i.size w := by
  obtain ⟨j, z, h1, h2, _⟩ := ty_info h
  simp [sizeOf, run_typeInfo w h1, h2]
theorem ty_zero (h : E.ty t = some i) (w : World) : ∃ z, (zeroValue t).run E.P w = .ok z w ∧ z.cells.toList = i.zero := by
  obtain ⟨j, z, h1, h2, h3, h4, h5, _⟩ := ty_info h
  exact ⟨z, by simp [zeroValue, run_typeInfo w h1, h4], h5⟩
theorem ty_isAgg (h : E.ty t = some i) (w : World) : (isAgg t).run E.P w = .ok i.k.isAgg w := by
  have hd := (E.agrees h).desc
  unfold isAgg
  cases hk : i.k <;> simp only [hk, TK.desc] at hd <;> simp only [TK.isAgg]
  case struct fs => obtain ⟨fields, hd, _⟩ := hd; simp [run_underlying hd]
  case func => obtain ⟨_, _, _, hd⟩ := hd; simp [run_underlying hd]
  case iface => obtain ⟨_, hd⟩ := hd; simp [run_underlying hd]
  all_goals simp [run_underlying hd]
end

def valOf (a : Bool) (cs : List PV) : PV := if a then .agg cs else cs.getD 0 .any
theorem R_valOf {a : Bool} {cs : List PV} {us : List Value} (h : RL w I cs us) (ha : a = false → cs.length = 1) : R w I (valOf a cs) (ofCells a us) := by
  unfold valOf ofCells
  cases a with
  | true => exact ⟨us, rfl, h⟩
  | false =>
    match cs, ha rfl with
    | [x], _ =>
      simp only [RL] at h
      obtain ⟨u, us', rfl, h1, h2⟩ := h
      simp
      cases x <;> first | exact h1 | trivial | (simp only [R1] at h1)
theorem run_loadVar_known {t : TypeId} {i : TyI} (h : E.ty t = some i) {ad : Addr} {us : List Value} (hl : us.length = i.size) (hs : i.k.isAgg = false → i.size = 1)
    (hc : ∀ j u, us[j]? = some u → w.cell? (ad.add j) = some u) : (loadVar t ad).run E.P w = .ok (ofCells i.k.isAgg us) w := by
  unfold loadVar
  simp only [Sem.run_bind, ty_isAgg h, Result.andThen_ok]
  cases hk : i.k.isAgg with
  | true =>
    simp only [if_true, Sem.run_bind, ty_sizeOf h, Result.andThen_ok]
    rw [← hl, run_loadCells_list _ _ _ hc]
    simp [ofCells]
  | false =>
    have h1 : us.length = 1 := by rw [hl]; exact hs hk
    match us, h1 with
    | [u], _ =>
      have := hc 0 u rfl
      have e : ad.add 0 = ad := by simp [Addr.add]
      rw [e] at this
      simp [ofCells, load, Sem.run, this]
end
end Go.Proofs.YtpgnfbdkhakbdaaGreatDoor.Lift

namespace Go.Proofs.YtpgnfbdkhakbdaaGreatDoor.Lift
open Go Go.RowKit

section
variable {E : Env} {w w1 w' : World} {I I1 I' : Nat → Prop} {G G1 G' : Nat → Option Nat} {h : Heap}

def bitsOp (op : BinOp) (k : IntKind) (x y : Int) : Int :=
  let a := BitVec.ofInt k.bits x
  let b := BitVec.ofInt k.bits y
  match op with
  | .and => k.wrap (a &&& b).toNat
  | .or => k.wrap (a ||| b).toNat
  | .xor => k.wrap (a ^^^ b).toNat
  | _ => k.wrap (a &&& ~~~b).toNat
def lessB : List UInt8 → List UInt8 → Bool := Op.bytesLess
def pbin (op : BinOp) : PV → PV → Option PV
  | .int k a, .int k' b => match op with
    | .shl => if 0 ≤ b then some (.int k (k.wrap (a * 2 ^ (min b.toNat k.bits)))) else none
    | .shr => if 0 ≤ b then some (.int k (a.fdiv (2 ^ (min b.toNat k.bits)))) else none
    | op => if k = k' then match op with
      | .add => some (.int k (k.wrap (a + b)))
      | .sub => some (.int k (k.wrap (a - b)))
      | .mul => some (.int k (k.wrap (a * b)))
      | .quo => if b = 0 then none else some (.int k (k.wrap (a.tdiv b)))
      | .rem => if b = 0 then none else some (.int k (a.tmod b))
      | .and => some (.int k (bitsOp .and k a b))
      | .or => some (.int k (bitsOp .or k a b))
      | .xor => some (.int k (bitsOp .xor k a b))
      | .andNot => some (.int k (bitsOp .andNot k a b))
      | .eql => some (.bool (a == b))
      | .neq => some (.bool (a != b))
      | .lss => some (.bool (decide (a < b)))
      | .leq => some (.bool (decide (a ≤ b)))
      | .gtr => some (.bool (decide (b < a)))
      | .geq => some (.bool (decide (b ≤ a)))
      | _ => none else none
  | .str a, .str b => match op with
    | .add => if a.length + b.length ≤ 9223372036854775807 then some (.str (a ++ b)) else none
    | .eql => some (.bool (a == b))
    | .neq => some (.bool (!(a == b)))
    | .lss => some (.bool (lessB a b))
    | .leq => some (.bool (lessB a b || a == b))
    | .gtr => some (.bool (!(lessB a b || a == b)))
    | .geq => some (.bool (!lessB a b))
    | _ => none
  | _, _ => none

theorem size_mk (l : List UInt8) : (⟨l.toArray⟩ : ByteArray).size = l.length := by simp [ByteArray.size]
theorem mk_append (a b : List UInt8) : (⟨a.toArray⟩ : ByteArray) ++ ⟨b.toArray⟩ = ⟨(a ++ b).toArray⟩ := by
  have := Go.Joins.data_append ⟨a.toArray⟩ ⟨b.toArray⟩
  have h2 := Go.Joins.bytes_eta ((⟨a.toArray⟩ : ByteArray) ++ ⟨b.toArray⟩)
  rw [this] at h2
  simpa using h2.symm

theorem run_eqGuard {op : BinOp} {t : TypeId} {x y : Operand} {a b : Value} (h1 : ∀ cs, a ≠ .agg cs) (h2 : a ≠ .nilIface) : (eqGuard op t x y a b).run E.P w = .ok () w := by
  cases op <;> first | rfl | (cases a <;> first | rfl | exact absurd rfl h2 | exact absurd rfl (h1 _))

theorem pbin_run {op : BinOp} {t : TypeId} {x y v : PV} {u1 u2 : Value} (hv : pbin op x y = some v) (h1 : R w I x u1) (h2 : R w I y u2) (o1 o2 : Operand) :
    ∃ u, (do eqGuard op t o1 o2 u1 u2; binOp op t u1 u2 : Sem Value).run E.P w = .ok u w ∧ R w I v u := by
  unfold pbin at hv
  split at hv
  · rename_i k a k' b
    obtain rfl : u1 = .int k a := h1
    obtain rfl : u2 = .int k' b := h2
    simp only [Sem.run_bind, run_eqGuard (a := .int k a) (h1 := fun cs => by simp) (h2 := by simp), Result.andThen_ok]
    cases op <;> dsimp only at hv
    case shl =>
      split at hv
      · rename_i hb; injection hv with hv; subst hv
        exact ⟨_, by simp [binOp, Op.shift, Int.not_lt.2 hb], rfl⟩
      · cases hv
    case shr =>
      split at hv
      · rename_i hb; injection hv with hv; subst hv
        exact ⟨_, by simp [binOp, Op.shift, Int.not_lt.2 hb], rfl⟩
      · cases hv
    all_goals
      split at hv
      · rename_i hk
        subst hk
        first
        | (cases hv; done)
        | (injection hv with hv; subst hv; exact ⟨_, by simp [binOp, Op.intArith, Op.intBits, Op.intCmp, bitsOp], rfl⟩)
        | (split at hv
           · cases hv
           · rename_i hb; injection hv with hv; subst hv
             exact ⟨_, by simp [binOp, Op.intDiv, hb], rfl⟩)
      · cases hv
  · rename_i a b
    obtain rfl : u1 = .string ⟨a.toArray⟩ := h1
    obtain rfl : u2 = .string ⟨b.toArray⟩ := h2
    simp only [Sem.run_bind, run_eqGuard (a := .string ⟨a.toArray⟩) (h1 := fun cs => by simp) (h2 := by simp), Result.andThen_ok]
    cases op <;> dsimp only at hv
    case add =>
      split at hv
      · rename_i hl; injection hv with hv; subst hv
        refine ⟨.string ⟨(a ++ b).toArray⟩, ?_, rfl⟩
        have : ¬ (((a.length + b.length : Nat) : Int) > IntKind.i64.max) := by
          have : IntKind.i64.max = 9223372036854775807 := by decide
          rw [this]; omega
        simp only [binOp, Op.stringOp, size_mk]
        rw [if_neg this, mk_append]
        rfl
      · cases hv
    all_goals first
      | (cases hv; done)
      | (injection hv with hv; subst hv; exact ⟨_, by simp [binOp, Op.stringOp, lessB], rfl⟩)
  · cases hv
end
end Go.Proofs.YtpgnfbdkhakbdaaGreatDoor.Lift

namespace Go.Proofs.YtpgnfbdkhakbdaaGreatDoor.Lift
open Go Go.RowKit

section
variable {E : Env} {w w1 w' : World} {I I1 I' : Nat → Prop} {G G1 G' : Nat → Option Nat} {h : Heap}

def Yld (E : Env) (a : AS) (op : Op) (v : PV) : Prop :=
  ∀ w I G act (o : Oper), o.op = op → Good E w I G a.h → RS E w I a act → ∃ u, (execOp act.eval o).run E.P w = .ok (.value u) w ∧ R w I v u

theorem SWO.yld {ops : Array Oper} {o : Oper} {rest : List Oper} {Q : Exit → AS → Prop} {a : AS} {v : PV} (hy : Yld E a o.op v) (hg : wantedA ops a o = some true) (hd : okDst a.n o.dst = true)
    (k : SWO E ops rest Q (a.put o.dst v)) : SWO E ops (o :: rest) Q a :=
  SWO.val v hg hd (fun w I G act g r => hy w I G act o rfl g r) k

theorem Yld.move {a : AS} (x : Operand) : Yld E a (.move x) (a.eval E x) := by
  intro w I G act o ho g r
  exact ⟨_, by simp [execOp, ho], r.eval g x⟩
theorem Yld.assign {a : AS} (x : Operand) : Yld E a (.assign x) (a.eval E x) := by
  intro w I G act o ho g r
  exact ⟨_, by simp [execOp, ho], r.eval g x⟩
theorem Yld.pick {a : AS} (c x y : Operand) {b : Bool} (hc : a.eval E c = .bool b) : Yld E a (.pick c x y) (if b then a.eval E x else a.eval E y) := by
  intro w I G act o ho g r
  have h1 := r.eval g c
  rw [hc] at h1
  have h1 : act.eval c = .bool b := h1
  refine ⟨if b then act.eval x else act.eval y, by simp [execOp, ho, h1, asBool], ?_⟩
  cases b
  · exact r.eval g y
  · exact r.eval g x
theorem Yld.binOp {a : AS} (op : BinOp) (t : TypeId) (x y : Operand) (ty : TypeId) {v : PV} (hv : pbin op (a.eval E x) (a.eval E y) = some v) : Yld E a (.binOp op t x y ty) v := by
  intro w I G act o ho g r
  obtain ⟨u, hu, hr⟩ := pbin_run (E := E) (t := t) hv (r.eval g x) (r.eval g y) x y
  refine ⟨u, ?_, hr⟩
  simp only [execOp, ho, Sem.run_bind] at hu ⊢
  rw [hu]; rfl

inductive CK where
  | int (k : IntKind) | bool | str
def plainCK (P : Program) (t : TypeId) : Option CK :=
  match P.underlying t with
  | some (.int k) => some (.int k)
  | some .bool => some .bool
  | some .string => some .str
  | _ => none
def fieldCKs (P : Program) : Nat → List Field → Option (List CK)
  | _, [] => some []
  | i, f :: fs => if f.name = "_" then none else if f.offset = i then match plainCK P f.type, fieldCKs P (i + 1) fs with
    | some c, some cs => some (c :: cs)
    | _, _ => none else none
def eqKinds (E : Env) (t : TypeId) : Option (List CK) :=
  if E.P.eqGuardType E.P.depth t = true then none else match E.P.underlying t with
  | some (.struct fs) => if E.P.stoodInHeld t = true then none else fieldCKs E.P 0 fs.toList
  | some (.array n e) => if E.P.cellsOf e = 1 then (if (E.P.info? e).isSome = true then (match plainCK E.P e with
    | some c => some (List.replicate n c)
    | none => none) else none) else none
  | _ => none
def fits : List CK → List PV → Bool
  | [], [] => true
  | .int k :: ks, .int k' _ :: xs => decide (k = k') && fits ks xs
  | .bool :: ks, .bool _ :: xs => fits ks xs
  | .str :: ks, .str _ :: xs => fits ks xs
  | _, _ => false
def eqCells : List PV → List PV → Bool
  | .int _ a :: xs, .int _ b :: ys => (a == b) && eqCells xs ys
  | .bool a :: xs, .bool b :: ys => (a == b) && eqCells xs ys
  | .str a :: xs, .str b :: ys => (a == b) && eqCells xs ys
  | [], [] => true
  | _, _ => false
theorem plainCK_key {P : Program} {t : TypeId} {c : CK} (h : plainCK P t = some c) : P.plainKey t = true := by
  unfold plainCK at h
  unfold Program.plainKey
  split at h <;> simp_all
theorem plainCK_under {P : Program} {t : TypeId} {c : CK} (h : plainCK P t = some c) : P.underlying t = some (match c with | .int k => .int k | .bool => .bool | .str => .string) := by
  unfold plainCK at h
  split at h <;> first | (cases h; done) | (injection h with h; subst h; assumption)
theorem eq_cell {P : Program} {t : TypeId} {c : CK} (hc : plainCK P t = some c) (d : Nat) {x y : PV} {xs ys : List PV} {ks : List CK} {u v : Value} (hx : fits (c :: ks) (x :: xs) = true) (hy : fits (c :: ks) (y :: ys) = true) (h1 : R1 w I x u) (h2 : R1 w I y v) :
    ∃ b, (Op.equalIn (d + 1) t u v).run P w = .ok b w ∧ eqCells (x :: xs) (y :: ys) = (b && eqCells xs ys) ∧ fits ks xs = true ∧ fits ks ys = true := by
  have hu := plainCK_under hc
  cases c with
  | int k =>
    cases x <;> try (cases hx; done)
    cases y <;> try (cases hy; done)
    rename_i k1 n1 k2 n2
    simp only [fits, Bool.and_eq_true, decide_eq_true_eq] at hx hy
    obtain ⟨e1, f1⟩ := hx
    obtain ⟨e2, f2⟩ := hy
    subst e1; subst e2
    obtain rfl : u = _ := h1
    obtain rfl : v = _ := h2
    exact ⟨_, run_equalIn_int _ _ _ _ _ _ _ hu, rfl, f1, f2⟩
  | bool =>
    cases x <;> try (cases hx; done)
    cases y <;> try (cases hy; done)
    obtain rfl : u = _ := h1
    obtain rfl : v = _ := h2
    exact ⟨_, run_equalIn_bool' _ _ _ _ _ hu, rfl, hx, hy⟩
  | str =>
    cases x <;> try (cases hx; done)
    cases y <;> try (cases hy; done)
    obtain rfl : u = _ := h1
    obtain rfl : v = _ := h2
    refine ⟨_, run_equalIn_string _ _ _ _ _ hu, ?_, hx, hy⟩
    rw [ByteArray.toList_eq, ByteArray.toList_eq]
    rfl
theorem eq_fields {P : Program} (d : Nat) (us vs : List Value) : ∀ (fs : List Field) (i : Nat) (ks : List CK) (cs ds : List PV), fieldCKs P i fs = some ks → fits ks cs = true → fits ks ds = true → RL w I cs (us.drop i) → RL w I ds (vs.drop i) →
    (Op.eqFields (d + 1) us.toArray vs.toArray fs).run P w = .ok (eqCells cs ds) w
  | [], i, ks, cs, ds, hk, hc, hd, _, _ => by
    injection hk with hk
    subst hk
    cases cs with
    | nil => cases ds with
      | nil => simp [Op.eqFields, eqCells]
      | cons => cases hd
    | cons => cases hc
  | f :: fs, i, ks, cs, ds, hk, hc, hd, h1, h2 => by
    unfold fieldCKs at hk
    split at hk
    · cases hk
    · rename_i hn
      split at hk
      · rename_i ho
        split at hk
        · rename_i c cs' hp hr
          injection hk with hk
          subst hk
          have hkey := plainCK_key hp
          cases cs with
          | nil => cases c <;> cases hc
          | cons x cs =>
            cases ds with
            | nil => cases c <;> cases hd
            | cons y ds =>
              simp only [RL] at h1 h2
              obtain ⟨u, us', eu, r1, l1⟩ := h1
              obtain ⟨v, vs', ev, r2, l2⟩ := h2
              obtain ⟨b, hb, he, f1, f2⟩ := eq_cell hp d hc hd r1 r2
              have gu : us.toArray[f.offset]? = some u := by rw [ho, List.getElem?_toArray, ← List.head?_drop, eu]; rfl
              have gv : vs.toArray[f.offset]? = some v := by rw [ho, List.getElem?_toArray, ← List.head?_drop, ev]; rfl
              have tu : us.drop (i + 1) = us' := by rw [← List.drop_drop, eu]; rfl
              have tv : vs.drop (i + 1) = vs' := by rw [← List.drop_drop, ev]; rfl
              have ih := eq_fields d us vs fs (i + 1) cs' cs ds hr f1 f2 (by rw [tu]; exact l1) (by rw [tv]; exact l2)
              simp only [Op.eqFields, hn, ne_eq, not_false_eq_true, if_true, Sem.run_bind, run_part_plain w hkey gu, run_part_plain w hkey gv, hb, Result.andThen_ok]
              rw [he]
              cases b
              · simp
              · simpa using ih
        · cases hk
      · cases hk
theorem eq_items {P : Program} (d : Nat) {e : TypeId} {c : CK} (hp : plainCK P e = some c) (us vs : List Value) : ∀ (n i : Nat) (cs ds : List PV), fits (List.replicate n c) cs = true → fits (List.replicate n c) ds = true → RL w I cs (us.drop i) → RL w I ds (vs.drop i) →
    (Op.eqItems (d + 1) e 1 us.toArray vs.toArray (List.range' i n)).run P w = .ok (eqCells cs ds) w
  | 0, i, cs, ds, hc, hd, _, _ => by
    cases cs with
    | nil => cases ds with
      | nil => simp [Op.eqItems, eqCells]
      | cons => cases hd
    | cons => cases hc
  | n + 1, i, cs, ds, hc, hd, h1, h2 => by
    rw [List.replicate_succ] at hc hd
    have hkey := plainCK_key hp
    cases cs with
    | nil => cases c <;> cases hc
    | cons x cs =>
      cases ds with
      | nil => cases c <;> cases hd
      | cons y ds =>
        simp only [RL] at h1 h2
        obtain ⟨u, us', eu, r1, l1⟩ := h1
        obtain ⟨v, vs', ev, r2, l2⟩ := h2
        obtain ⟨b, hb, he, f1, f2⟩ := eq_cell hp d hc hd r1 r2
        have gu : us.toArray[i * 1]? = some u := by rw [Nat.mul_one, List.getElem?_toArray, ← List.head?_drop, eu]; rfl
        have gv : vs.toArray[i * 1]? = some v := by rw [Nat.mul_one, List.getElem?_toArray, ← List.head?_drop, ev]; rfl
        have tu : us.drop (i + 1) = us' := by rw [← List.drop_drop, eu]; rfl
        have tv : vs.drop (i + 1) = vs' := by rw [← List.drop_drop, ev]; rfl
        have ih := eq_items d hp us vs n (i + 1) cs ds f1 f2 (by rw [tu]; exact l1) (by rw [tv]; exact l2)
        simp only [List.range'_succ, Op.eqItems, Sem.run_bind, run_part_plain w hkey gu, run_part_plain w hkey gv, hb, Result.andThen_ok]
        rw [he]
        cases b
        · simp
        · simpa using ih
theorem eq_main {t : TypeId} {ks : List CK} (hk : eqKinds E t = some ks) {cs ds : List PV} {us vs : List Value} (hc : fits ks cs = true) (hd : fits ks ds = true) (h1 : RL w I cs us) (h2 : RL w I ds vs) :
    E.P.eqGuardType E.P.depth t = false ∧ (Op.equal t (.agg us.toArray) (.agg vs.toArray)).run E.P w = .ok (eqCells cs ds) w := by
  unfold eqKinds at hk
  split at hk
  · cases hk
  rename_i hg
  have hg : E.P.eqGuardType E.P.depth t = false := by simpa using hg
  refine ⟨hg, ?_⟩
  show (Op.equalIn (9999 + 1) t (.agg us.toArray) (.agg vs.toArray)).run E.P w = _
  split at hk
  · rename_i fs hu
    split at hk
    · cases hk
    · rename_i hs
      have hf : E.P.fieldsOf t = fs := by unfold Program.fieldsOf; rw [hu]
      rw [run_equalIn_struct w 9999 t _ _ (by rw [hf]; exact hu) (by simpa using hs), hf]
      exact eq_fields 9998 us vs fs.toList 0 ks cs ds hk hc hd h1 h2
  · rename_i n e hu
    split at hk
    · rename_i he1
      split at hk
      · rename_i hi
        obtain ⟨i, hi⟩ := Option.isSome_iff_exists.1 hi
        split at hk
        · rename_i c hp
          injection hk with hk
          subst hk
          rw [run_equalIn_array w 9999 _ _ hu hi, he1, List.range_eq_range']
          exact eq_items 9998 hp us vs n 0 cs ds hc hd h1 h2
        · cases hk
      · cases hk
    · cases hk
  · cases hk
theorem eq_agg {t : TypeId} {ks : List CK} (hk : eqKinds E t = some ks) {cs ds : List PV} {us vs : List Value} (hc : fits ks cs = true) (hd : fits ks ds = true) (h1 : RL w I cs us) (h2 : RL w I ds vs) (o1 o2 : Operand) :
    (do eqGuard .eql t o1 o2 (.agg us.toArray) (.agg vs.toArray); binOp .eql t (.agg us.toArray) (.agg vs.toArray) : Sem Value).run E.P w = .ok (.bool (eqCells cs ds)) w ∧
    (do eqGuard .neq t o1 o2 (.agg us.toArray) (.agg vs.toArray); binOp .neq t (.agg us.toArray) (.agg vs.toArray) : Sem Value).run E.P w = .ok (.bool !(eqCells cs ds)) w := by
  obtain ⟨hg, main⟩ := eq_main hk hc hd h1 h2
  have guard : ∀ op : BinOp, (eqGuard op t o1 o2 (.agg us.toArray) (.agg vs.toArray)).run E.P w = .ok () w := fun op => by
    unfold eqGuard
    cases op <;> simp [hg]
  constructor
  · rw [Sem.run_bind, guard, Result.andThen_ok]
    show (do pure (Value.bool (← Op.equal t (.agg us.toArray) (.agg vs.toArray))) : Sem Value).run E.P w = _
    simp [main]
  · rw [Sem.run_bind, guard, Result.andThen_ok]
    show (do pure (Value.bool (!(← Op.equal t (.agg us.toArray) (.agg vs.toArray)))) : Sem Value).run E.P w = _
    simp [main]
def peqK : TK → PV → PV → Option Bool
  | .bool, .bool a, .bool b => some (a == b)
  | .ptr _, .val (.pointer none), .val (.pointer b) => some b.isNone
  | .ptr _, .val (.pointer (some _)), .val (.pointer none) => some false
  | .ptr _, .elem _, .val (.pointer none) => some false
  | .ptr _, .val (.pointer none), .elem _ => some false
  | .slice _, .val (.slice none _ _), .val (.slice b _ _) => some b.isNone
  | .slice _, .val (.slice (some _) _ _), .val (.slice none _ _) => some false
  | .map _ _, .val (.map none), .val (.map b) => some b.isNone
  | .map _ _, .val (.map (some _)), .val (.map none) => some false
  | .func, .val (.func ..), .val .nilFunc => some false
  | .func, .val .nilFunc, .val .nilFunc => some true
  | .iface, .iface .., .val .nilIface => some false
  | .iface, .val (.iface ..), .val .nilIface => some false
  | _, _, _ => none
def peq (E : Env) (t : TypeId) (x y : PV) : Option Bool :=
  match x with
  | .agg cs => match y with
    | .agg ds => match eqKinds E t with
      | some ks => if fits ks cs = true then (if fits ks ds = true then some (eqCells cs ds) else none) else none
      | none => none
    | _ => none
  | x => match E.ty t with
    | some i => peqK i.k x y
    | none => none
theorem peq_run {t : TypeId} {x y : PV} {b : Bool} {u1 u2 : Value} (hv : peq E t x y = some b) (h1 : R w I x u1) (h2 : R w I y u2) (o1 o2 : Operand) :
    (do eqGuard .eql t o1 o2 u1 u2; binOp .eql t u1 u2 : Sem Value).run E.P w = .ok (.bool b) w ∧
    (do eqGuard .neq t o1 o2 u1 u2; binOp .neq t u1 u2 : Sem Value).run E.P w = .ok (.bool !b) w := by
  have key : ∀ {u1 u2 : Value}, (∀ cs, u1 ≠ .agg cs) → u1 ≠ .nilIface → binOp .eql t u1 u2 = (do pure (.bool (← Op.equal t u1 u2))) → binOp .neq t u1 u2 = (do pure (.bool (!(← Op.equal t u1 u2)))) →
      (Op.equal t u1 u2).run E.P w = .ok b w →
      (do eqGuard .eql t o1 o2 u1 u2; binOp .eql t u1 u2 : Sem Value).run E.P w = .ok (.bool b) w ∧ (do eqGuard .neq t o1 o2 u1 u2; binOp .neq t u1 u2 : Sem Value).run E.P w = .ok (.bool !b) w := by
    intro u1 u2 ha hn hb hb2 he
    constructor
    · rw [Sem.run_bind, run_eqGuard ha hn, Result.andThen_ok, hb]; simp [he]
    · rw [Sem.run_bind, run_eqGuard ha hn, Result.andThen_ok, hb2]; simp [he]
  obtain ⟨d, eqn⟩ : ∃ d, ∀ u1 u2, Op.equal t u1 u2 = Op.equalIn (d + 1) t u1 u2 := ⟨9999, fun _ _ => rfl⟩
  unfold peq at hv
  split at hv
  · split at hv
    · split at hv
      · rename_i ks hk
        split at hv
        · split at hv
          · rename_i f1 f2
            injection hv with hv
            subst hv
            obtain ⟨us, rfl, r1⟩ : ∃ us, _ := (by simpa only [R, R0, R1] using h1)
            obtain ⟨vs, rfl, r2⟩ : ∃ us, _ := (by simpa only [R, R0, R1] using h2)
            exact eq_agg hk f1 f2 r1 r2 o1 o2
          · cases hv
        · cases hv
      · cases hv
    · cases hv
  rename_i hna
  clear hna
  cases hty : E.ty t with
  | none => rw [hty] at hv; cases hv
  | some i =>
    rw [hty] at hv
    have hd := (E.agrees hty).desc
    dsimp only at hv
    unfold peqK at hv
    split at hv
    all_goals first | (cases hv; done) | injection hv with hv
    all_goals rename_i hk; rw [hk] at hd
    case h_4 =>
      obtain ⟨ad, us, rfl, _⟩ : ∃ ad us, _ := (by simpa only [R, R0, R1] using h1)
      obtain ⟨rfl, _⟩ : _ ∧ _ := h2
      exact key (fun cs => by simp) (by simp) rfl rfl (by rw [eqn]; simp [Op.equalIn, run_underlying hd, hv])
    case h_5 =>
      obtain ⟨rfl, _⟩ : _ ∧ _ := h1
      obtain ⟨ad, us, rfl, _⟩ : ∃ ad us, _ := (by simpa only [R, R0, R1] using h2)
      exact key (fun cs => by simp) (by simp) rfl rfl (by rw [eqn]; simp [Op.equalIn, run_underlying hd, hv])
    case h_1 =>
      obtain rfl : u1 = _ := h1
      obtain rfl : u2 = _ := h2
      exact key (fun cs => by simp) (by simp) rfl rfl (by rw [eqn, run_equalIn_bool' _ _ _ _ _ hd, hv])
    case h_12 =>
      obtain ⟨ms, hd⟩ := hd
      obtain ⟨us, rfl, _⟩ : ∃ us, _ := (by simpa only [R, R0, R1] using h1)
      obtain ⟨rfl, _⟩ : _ ∧ _ := h2
      exact key (fun cs => by simp) (by simp) rfl rfl (by rw [eqn]; simp [Op.equalIn, run_underlying hd, hv])
    case h_10 =>
      obtain ⟨ps, rs, vv, hd⟩ := hd
      obtain ⟨rfl, _⟩ : _ ∧ _ := h1
      obtain ⟨rfl, _⟩ : _ ∧ _ := h2
      exact key (fun cs => by simp) (by simp) rfl rfl (by rw [eqn]; simp [Op.equalIn, run_underlying hd, hv])
    case h_11 =>
      obtain ⟨ps, rs, vv, hd⟩ := hd
      obtain ⟨rfl, _⟩ : _ ∧ _ := h1
      obtain ⟨rfl, _⟩ : _ ∧ _ := h2
      exact key (fun cs => by simp) (by simp) rfl rfl (by rw [eqn]; simp [Op.equalIn, run_underlying hd, hv])
    case h_13 =>
      obtain ⟨ms, hd⟩ := hd
      obtain ⟨rfl, _⟩ : _ ∧ _ := h1
      obtain ⟨rfl, _⟩ : _ ∧ _ := h2
      exact key (fun cs => by simp) (by simp) rfl rfl (by rw [eqn]; simp [Op.equalIn, run_underlying hd, hv])
    all_goals
      obtain ⟨rfl, _⟩ : _ ∧ _ := h1
      obtain ⟨rfl, _⟩ : _ ∧ _ := h2
      exact key (fun cs => by simp) (by simp) rfl rfl (by rw [eqn]; simp [Op.equalIn, run_underlying hd, hv])
theorem Yld.eql {a : AS} (t : TypeId) (x y : Operand) (ty : TypeId) {b : Bool} (hv : peq E t (a.eval E x) (a.eval E y) = some b) : Yld E a (.binOp .eql t x y ty) (.bool b) := by
  intro w I G act o ho g r
  have := (peq_run hv (r.eval g x) (r.eval g y) x y).1
  exact ⟨.bool b, by simp only [execOp, ho, Sem.run_bind] at this ⊢; rw [this]; rfl, rfl⟩
theorem Yld.neq {a : AS} (t : TypeId) (x y : Operand) (ty : TypeId) {b : Bool} (hv : peq E t (a.eval E x) (a.eval E y) = some b) : Yld E a (.binOp .neq t x y ty) (.bool (!b)) := by
  intro w I G act o ho g r
  have := (peq_run hv (r.eval g x) (r.eval g y) x y).2
  exact ⟨.bool (!b), by simp only [execOp, ho, Sem.run_bind] at this ⊢; rw [this]; rfl, rfl⟩

def pun (op : UnOp) : PV → Option PV
  | .int k n => match op with
    | .neg => some (.int k (k.wrap (0 - n)))
    | .xor => some (.int k (bitsOp .xor k (if k.signed then -1 else k.max) n))
    | _ => none
  | .bool b => match op with
    | .not => some (.bool (!b))
    | _ => none
  | _ => none
theorem Yld.unOp {a : AS} (op : UnOp) (t : TypeId) (x : Operand) {v : PV} (hv : pun op (a.eval E x) = some v) : Yld E a (.unOp op t x) v := by
  intro w I G act o ho g r
  have h1 := r.eval g x
  generalize a.eval E x = p at *
  unfold pun at hv
  split at hv
  · rename_i k n
    have h1 : act.eval x = .int k n := h1
    split at hv
    · injection hv with hv; subst hv
      exact ⟨_, by simp [execOp, ho, h1, Op.unary, Op.intArith], rfl⟩
    · injection hv with hv; subst hv
      exact ⟨_, by simp [execOp, ho, h1, Op.unary, Op.intBits, bitsOp], rfl⟩
    · cases hv
  · rename_i b
    have h1 : act.eval x = .bool b := h1
    split at hv
    · injection hv with hv; subst hv
      exact ⟨_, by simp [execOp, ho, h1, Op.unary], rfl⟩
    · cases hv
  · cases hv
theorem Yld.nilCheck {a : AS} (x : Operand) {ad : Addr} (hx : a.eval E x = .val (.pointer (some ad))) : Yld E a (.nilCheck x) (.val (.pointer (some ad))) := by
  intro w I G act o ho g r
  have h1 := r.eval g x
  rw [hx] at h1
  have h1' : act.eval x = .pointer (some ad) := h1.1
  exact ⟨_, by simp [execOp, ho, h1'], rfl, rfl⟩
theorem Yld.nilCheck_elem {a : AS} (x : Operand) {cs : List PV} (hx : a.eval E x = .elem cs) : Yld E a (.nilCheck x) (.elem cs) := by
  intro w I G act o ho g r
  have h1 := r.eval g x
  rw [hx] at h1
  obtain ⟨ad, us, e, h2⟩ : ∃ ad us, _ := (by simpa only [R, R0, R1] using h1)
  refine ⟨act.eval x, by simp [execOp, ho, e], ?_⟩
  exact h1
theorem Yld.makeFunc {a : AS} (fn : Fn) (caps : Array Operand) (vs : List Value) (hx : caps.toList.map (a.eval E) = vs.map ofVal) (hvs : vs.all Value.oneCell' = true) (hp : ∀ v ∈ vs, ∀ t z, v ≠ .iface t z) :
    Yld E a (.makeFunc fn #[] caps) (.val (.func fn #[] vs.toArray)) := by
  intro w I G act o ho g r
  have : caps.toList.map act.eval = vs := by
    have key : ∀ (xs : List Operand) (vs : List Value), xs.map (a.eval E) = vs.map ofVal → vs.all Value.oneCell' = true → xs.map act.eval = vs := by
      intro xs
      induction xs with
      | nil => intro vs h _; cases vs with
        | nil => rfl
        | cons => simp at h
      | cons x xs ih =>
        intro vs h hv
        cases vs with
        | nil => simp at h
        | cons v vs =>
          simp only [List.map_cons, List.cons.injEq, List.all_cons, Bool.and_eq_true] at h hv ⊢
          refine ⟨?_, ih vs h.2 hv.2⟩
          have h1 := r.eval g x
          rw [h.1] at h1
          cases v with
          | string s =>
            have h1 : act.eval x = .string ⟨s.data.toList.toArray⟩ := h1
            rw [h1, Go.Joins.bytes_eta]
          | agg cs => simp [Value.oneCell'] at hv
          | tuple cs => simp [Value.oneCell'] at hv
          | int k n => exact h1
          | bool b => exact h1
          | _ => exact h1.1
    exact key _ _ hx hvs
  refine ⟨.func fn #[] vs.toArray, ?_, rfl, rfl⟩
  simp only [execOp, ho, Instr.makeFunc]
  have e : caps.map act.eval = vs.toArray := by apply Array.ext'; rw [← this]; simp
  rw [e]
  simp

theorem Yld.convert_int {a : AS} {s t : TypeId} (x : Operand) {k k' : IntKind} {n : Int} {i j : TyI} (hs : E.ty s = some i) (ht : E.ty t = some j) (hk : j.k = .int k) (hx : a.eval E x = .int k' n) : Yld E a (.convert s t x) (.int k (k.wrap n)) := by
  intro w I G act o ho g r
  have h1 := r.eval g x
  rw [hx] at h1
  have h1 : act.eval x = .int k' n := h1
  have hd := (E.agrees ht).desc
  rw [hk] at hd
  obtain ⟨d, hd'⟩ : ∃ d, E.P.underlying s = some d := by
    have := (E.agrees hs).desc
    cases hik : i.k <;> simp only [hik, TK.desc] at this
    case struct => obtain ⟨f, this, _⟩ := this; exact ⟨_, this⟩
    case func => obtain ⟨_, _, _, this⟩ := this; exact ⟨_, this⟩
    case iface => obtain ⟨_, this⟩ := this; exact ⟨_, this⟩
    all_goals exact ⟨_, this⟩
  exact ⟨_, by simp [execOp, ho, h1, convert, run_underlying hd, run_underlying hd', Conv.intToInt], rfl⟩
theorem Yld.makeInterface {a : AS} {t : TypeId} (x : Operand) {i : TyI} {v : PV} (ht : E.ty t = some i) (hk : (match i.k with | .iface => false | _ => true) = true)
    (hx : a.eval E x = v) {cs : List PV} {ag : Bool} (hv : (v = .agg cs ∧ ag = true) ∨ (cs = [v] ∧ ag = false ∧ (∀ c, v ≠ .agg c) ∧ (∀ c, v ≠ .tuple c) ∧ v ≠ .any)) : Yld E a (.makeInterface t x) (.iface t ag cs) := by
  intro w I G act o ho g r
  have h1 := r.eval g x
  rw [hx] at h1
  have hd := (E.agrees ht).desc
  have hr : (Instr.makeInterface t (act.eval x)).run E.P w = .ok (.iface t (act.eval x)) w := by
    cases hik : i.k <;> simp only [hik, TK.desc] at hd hk
    case struct => obtain ⟨f, hd, _⟩ := hd; simp [Instr.makeInterface, run_underlying hd]
    case func => obtain ⟨_, _, _, hd⟩ := hd; simp [Instr.makeInterface, run_underlying hd]
    case iface => cases hk
    all_goals simp [Instr.makeInterface, run_underlying hd]
  refine ⟨_, by simp only [execOp, ho, Sem.run_bind]; rw [hr]; rfl, ?_⟩
  show R1 w I _ _
  simp only [R1]
  rcases hv with ⟨rfl, rfl⟩ | ⟨rfl, rfl, n1, n2, n3⟩
  · obtain ⟨us, e, h2⟩ : ∃ us, _ := h1
    exact ⟨us, by rw [e]; rfl, h2⟩
  · refine ⟨[act.eval x], rfl, ?_⟩
    simp only [RL]
    refine ⟨_, _, rfl, ?_, rfl⟩
    cases v <;> first | exact h1 | exact absurd rfl (n1 _) | exact absurd rfl (n2 _) | exact absurd rfl n3
end
end Go.Proofs.YtpgnfbdkhakbdaaGreatDoor.Lift
