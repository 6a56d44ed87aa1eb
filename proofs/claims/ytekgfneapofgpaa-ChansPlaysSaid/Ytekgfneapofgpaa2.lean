/- Contracts of functions that the law reaches. -/
import Derived.Test.Ytekgfneapofgpaa1
set_option linter.unusedSimpArgs false
set_option linter.unusedVariables false
namespace Go.Proofs.Ytekgfneapofgpaa
open Go Go.RowKit Go.Proofs.Ytekgfneapofgpaa Go.Proofs.Ytekgfneapofgpaa.Lift

/-! What lies on a board -/
/-- An offer that waits: the address of its block; since when; whose; which; channel and direction. -/
structure It where
  a : Nat
  since : Nat
  pid : Int
  arm : Nat
  ch : Int
  sd : Bool
deriving DecidableEq
/-- A queue: channel and direction; its block, its row's block and room; when its key was born; what is in it. -/
structure Qu where
  ch : Int
  sd : Bool
  qa : Nat
  buf : Nat
  cap : Nat
  born : Nat
  l : List It
/-- A process that waits. -/
structure Pr where
  pid : Int
  born : Nat
  its : List It
structure Bo where
  rb : Nat
  rq : Nat
  rw : Nat
  time : Nat
  nq : Nat
  nw : Nat
  ps : List Pr
  qs : List Qu
  items : List It
def adr (a : Nat) : PV := .val (.pointer (some ⟨a, 0, none⟩))
def itC (g : Bool) (i : It) : AObj := .cells 63 6 [.int .i64 i.since, .bool g, .int .i64 i.pid, .int .i64 i.arm, .int .i64 i.ch, .bool i.sd]
def adrs (l : List It) : List PV := l.map fun i => adr i.a
def adr1 (l : List It) : List (List PV) := l.map fun i => [adr i.a]
theorem adrs_len (l : List It) : (adrs l).length = l.length := List.length_map _
theorem adr1_len (l : List It) : (adr1 l).length = l.length := List.length_map _
theorem adr1_flat (l : List It) : (adr1 l).flatten = adrs l := by
  unfold adr1 adrs
  induction l with
  | nil => rfl
  | cons x l ih => rw [List.map_cons, List.flatten_cons, ih]; rfl
theorem adrs_at {l : List It} {i : Nat} (hi : i < l.length) : ((adrs l).drop i).take 1 = [adr l[i].a] := by
  unfold adrs
  rw [List.drop_eq_getElem_cons (by rw [List.length_map]; exact hi), List.getElem_map]
  rfl
theorem adr1_at {l : List It} {i : Nat} (hi : i < l.length) : (adr1 l).getD i [] = [adr l[i].a] := by
  unfold adr1
  rw [List.getD_eq_getElem?_getD, List.getElem?_map, List.getElem?_eq_getElem hi]
  rfl
def rowC (cap : Nat) (l : List It) : AObj := .cells 61 cap (adrs l)
def quC (buf n cap : Nat) : AObj := .cells 67 1 [.val (.slice (some ⟨buf, 0, none⟩) n cap)]
def qE (q : Qu) : List PV × List PV × Nat := ([.int .i64 q.ch, .bool q.sd], [adr q.qa], q.born)
def qEs (qs : List Qu) : List (List PV × List PV × Nat) := qs.map qE
def wE (p : Pr) : List PV × List PV × Nat := ([.int .i64 p.pid], [.list 1 (adr1 p.its)], p.born)
def wEs (ps : List Pr) : List (List PV × List PV × Nat) := ps.map wE
def boC (B : Bo) : AObj := .cells 58 3 [.val (.map (some B.rq)), .val (.map (some B.rw)), .int .i64 (B.time : Nat)]

/-- The heap holds a board; 'gn' says which of its items were taken back. 'h0': what else there is. -/
structure BOn (h0 : Heap) (gn : It → Bool) (B : Bo) (h : Heap) : Prop where
  hb : h B.rb = some (boC B)
  hq : h B.rq = some (.gmap true false (qEs B.qs) B.nq)
  hw : h B.rw = some (.gmap false false (wEs B.ps) B.nw)
  hi : ∀ i ∈ B.items, h i.a = some (itC (gn i) i)
  hqa : ∀ q ∈ B.qs, h q.qa = some (quC q.buf q.l.length q.cap)
  hbuf : ∀ q ∈ B.qs, h q.buf = some (rowC q.cap q.l)
  hcap : ∀ q ∈ B.qs, q.l.length ≤ q.cap ∧ q.cap ≤ maxLen
  hsub : ∀ q ∈ B.qs, ∀ i ∈ q.l, i ∈ B.items
  ndi : (B.items.map It.a).Nodup
  ndq : (B.qs.map Qu.qa).Nodup
  ndb : (B.qs.map Qu.buf).Nodup
  inc : ∀ k X, h0 k = some X → h k = some X
  nb : h0 B.rb = none
  nq : h0 B.rq = none
  nw : h0 B.rw = none
  ni : ∀ i ∈ B.items, h0 i.a = none
  nqa : ∀ q ∈ B.qs, h0 q.qa = none
  nbuf : ∀ q ∈ B.qs, h0 q.buf = none

theorem qE_fits (qs : List Qu) : ((qEs qs).all fun e => fits [.int .i64, .bool] e.1) = true := by
  unfold qEs
  rw [List.all_map, List.all_eq_true]
  intro q _
  rfl
theorem wE_fits (ps : List Pr) : ((wEs ps).all fun e => fits [.int .i64] e.1) = true := by
  unfold wEs
  rw [List.all_map, List.all_eq_true]
  intro q _
  rfl
theorem qE_len (qs : List Qu) : ((qEs qs).all fun e => e.2.1.length == 1) = true := by
  unfold qEs
  rw [List.all_map, List.all_eq_true]
  intro q _
  rfl
theorem wE_len (ps : List Pr) : ((wEs ps).all fun e => e.2.1.length == 1) = true := by
  unfold wEs
  rw [List.all_map, List.all_eq_true]
  intro q _
  rfl
/-- The queue of a key. -/
def qOf (qs : List Qu) (c : Int) (s : Bool) : Option Qu := qs.find? fun q => q.ch == c && q.sd == s
def pOf (ps : List Pr) (p : Int) : Option Pr := ps.find? fun x => x.pid == p
theorem q_find (c : Int) (s : Bool) : ∀ qs : List Qu, mfind [.int .i64 c, .bool s] (qEs qs) = (qOf qs c s).map fun q => [adr q.qa]
  | [] => rfl
  | q :: qs => by
    show (if eqCells [.int .i64 c, .bool s] [.int .i64 q.ch, .bool q.sd] = true then some [adr q.qa] else mfind [.int .i64 c, .bool s] (qEs qs)) = ((q :: qs).find? _).map _
    rw [List.find?_cons]
    have e : eqCells [.int .i64 c, .bool s] [.int .i64 q.ch, .bool q.sd] = (q.ch == c && q.sd == s) := by
      simp only [eqCells, Bool.and_true]
      rw [Bool.beq_comm (a := c), Bool.beq_comm (a := s)]
    rw [e]
    cases h : (q.ch == c && q.sd == s)
    · rw [if_neg (by decide)]; exact q_find c s qs
    · rfl
theorem w_find (p : Int) : ∀ ps : List Pr, mfind [.int .i64 p] (wEs ps) = (pOf ps p).map fun x => [.list 1 (adr1 x.its)]
  | [] => rfl
  | q :: qs => by
    show (if eqCells [.int .i64 p] [.int .i64 q.pid] = true then some [.list 1 (adr1 q.its)] else mfind [.int .i64 p] (wEs qs)) = ((q :: qs).find? _).map _
    rw [List.find?_cons]
    have e : eqCells [.int .i64 p] [.int .i64 q.pid] = (q.pid == p) := by
      simp only [eqCells, Bool.and_true]
      rw [Bool.beq_comm (a := p)]
    rw [e]
    cases h : (q.pid == p)
    · rw [if_neg (by decide)]; exact w_find p qs
    · rfl
theorem qOf_mem {qs : List Qu} {c : Int} {s : Bool} {q : Qu} (h : qOf qs c s = some q) : q ∈ qs ∧ q.ch = c ∧ q.sd = s := by
  have h1 := List.mem_of_find?_eq_some h
  have h2 := List.find?_some h
  simp at h2
  exact ⟨h1, h2.1, h2.2⟩
theorem pOf_mem {ps : List Pr} {p : Int} {x : Pr} (h : pOf ps p = some x) : x ∈ ps ∧ x.pid = p := by
  have h1 := List.mem_of_find?_eq_some h
  have h2 := List.find?_some h
  simp at h2
  exact ⟨h1, h2⟩

/-! (*Board).Waits -/
theorem Waits_ok (p : Int) {h0 h : Heap} {gn : It → Bool} {B : Bo} (b : BOn h0 gn B h) : SCalls env 11 [adr B.rb, .int .i64 p] h (Ret (.bool (pOf B.ps p).isSome) h) := by
  refine SCalls.body Try.func11 rfl rfl (by simp [Try.ntmps11]) (SW.run [] _ ?_)
  have h1 := b.hb
  have h2 := b.hw
  have h3 := wE_fits B.ps
  have h4 := w_find p B.ps
  cases hp : pOf B.ps p with
  | none =>
    rw [hp] at h4
    simp only [wpC, mayStop, stops, isFlt, Specs.has, Specs.hasO, Bool.or_false, Specs.hasH, Bool.not_false, List.any_cons, List.any_nil, Bool.false_eq_true, ↓reduceIte, wpS, wantedA, okDst, Try.ntmps11, Nat.reduceLT, decide_true, step1, isOwnCall, hxOp, px, AS.eval, ofConst, ofVal, thenQ, AS.put, enumA, adr, Nat.zero_add, dropKey, reduceCtorEq, Nat.reduceEqDiff, AS.get, Lift.look, Nat.succ_ne_zero, Option.getD_some, isNilC, pbinP, pflt, peq, ty25, peqK, isB, tmpOf, asB, pfieldAddr, fieldOf, ty58, fieldIn, List.getElem?_cons_succ, List.getElem?_cons_zero, ty56, Option.map_some, ne_eq, not_false_eq_true, pload, h1, boC, okOne, TK.isAgg, beq_self_eq_true, Bool.or_true, Nat.reduceAdd, List.length_cons, List.length_nil, Nat.reduceLeDiff, and_self, Lift.valOf, List.drop_succ_cons, List.drop_zero, List.take_succ_cons, List.take_zero, List.getD_cons_zero, plookup, ty59, h2, isAggV, glook, kk3, h3, PV.cells, fits, Bool.and_true, okZero, List.all_cons, Value.oneCell', List.all_nil, wE_len, h4, Option.map_none, List.map_cons, List.map_nil, Option.getD_none, Option.isSome_none, RPost, sres, Try.results11, sresL, sres1, Option.some.injEq, Ret_fin, HTo_self, and_true, exists_eq_left']
  | some x =>
    rw [hp] at h4
    simp only [wpC, mayStop, stops, isFlt, Specs.has, Specs.hasO, Bool.or_false, Specs.hasH, Bool.not_false, List.any_cons, List.any_nil, Bool.false_eq_true, ↓reduceIte, wpS, wantedA, okDst, Try.ntmps11, Nat.reduceLT, decide_true, step1, isOwnCall, hxOp, px, AS.eval, ofConst, ofVal, thenQ, AS.put, enumA, adr, Nat.zero_add, dropKey, reduceCtorEq, Nat.reduceEqDiff, AS.get, Lift.look, Nat.succ_ne_zero, Option.getD_some, isNilC, pbinP, pflt, peq, ty25, peqK, isB, tmpOf, asB, pfieldAddr, fieldOf, ty58, fieldIn, List.getElem?_cons_succ, List.getElem?_cons_zero, ty56, Option.map_some, ne_eq, not_false_eq_true, pload, h1, boC, okOne, TK.isAgg, beq_self_eq_true, Bool.or_true, Nat.reduceAdd, List.length_cons, List.length_nil, Nat.reduceLeDiff, and_self, Lift.valOf, List.drop_succ_cons, List.drop_zero, List.take_succ_cons, List.take_zero, List.getD_cons_zero, plookup, ty59, h2, isAggV, glook, kk3, h3, PV.cells, fits, Bool.and_true, okZero, List.all_cons, Value.oneCell', List.all_nil, wE_len, h4, List.map_cons, List.map_nil, Option.isSome_some, RPost, sres, Try.results11, sresL, sres1, Option.some.injEq, Ret_fin, HTo_self, and_true, exists_eq_left']
theorem Waits_nil (p : Int) (h : Heap) : SCalls env 11 [.val (.pointer none), .int .i64 p] h (Ret (.bool false) h) := by
  refine SCalls.body Try.func11 rfl rfl (by simp [Try.ntmps11]) (SW.run [] _ ?_)
  simp only [wpC, mayStop, stops, isFlt, Specs.has, Specs.hasO, Bool.or_false, Specs.hasH, Bool.not_false, List.any_cons, List.any_nil, Bool.false_eq_true, ↓reduceIte, wpS, wantedA, okDst, Try.ntmps11, Nat.reduceLT, decide_true, step1, isOwnCall, hxOp, px, AS.eval, ofConst, ofVal, thenQ, AS.put, enumA, Nat.zero_add, dropKey, reduceCtorEq, Nat.reduceEqDiff, AS.get, Lift.look, Nat.succ_ne_zero, Option.getD_some, isNilC, pbinP, pflt, peq, ty25, peqK, Option.isNone_none, isB, tmpOf, asB, RPost, sres, Try.results11, sresL, sres1, Option.some.injEq, Ret_fin, HTo_self, and_true, exists_eq_left', and_self]
end Go.Proofs.Ytekgfneapofgpaa
