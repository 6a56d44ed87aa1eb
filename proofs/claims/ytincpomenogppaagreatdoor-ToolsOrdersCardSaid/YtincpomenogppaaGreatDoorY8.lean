/- Contracts of functions that the law reaches. -/
import Derived.Test.YtincpomenogppaaGreatDoorY7
import Derived.Test.YtincpomenogppaaGreatDoorShelf
set_option linter.unusedSimpArgs false
set_option linter.unusedVariables false
namespace Go.Proofs.YtincpomenogppaaGreatDoor
open Go Go.RowKit Go.Proofs.YtincpomenogppaaGreatDoor Go.Proofs.YtincpomenogppaaGreatDoor.Lift
set_option maxRecDepth 100000

def sCompare : List PV → Prop × PV
  | [.str a, .str b] => (True, .int .i64 (Lib.compareBytes a b))
  | _ => PBad
def cmpD (down : Bool) (a b : List UInt8) : Int := if down = true then Lib.compareBytes b a else Lib.compareBytes a b
theorem cmp_less : ∀ a b : List UInt8, decide (Lib.compareBytes a b < 0) = lessB a b
  | [], [] => rfl
  | [], b :: y => rfl
  | a :: x, [] => rfl
  | a :: x, b :: y => by
    rw [less_cons, Lib.compareBytes]
    by_cases h1 : a < b
    · rw [if_pos h1, decide_eq_true h1]; rfl
    · rw [if_neg h1, decide_eq_false h1]
      by_cases h2 : b < a
      · rw [if_pos h2]
        have : (a == b) = false := by
          rw [beq_eq_false_iff_ne]; rintro rfl; exact h1 h2
        rw [this]; rfl
      · rw [if_neg h2]
        have e : a = b := UInt8.toNat_inj.1 (by rw [u8_lt_iff] at h1 h2; omega)
        subst e
        rw [cmp_less x y]; simp
theorem cmpD_lt (d : Bool) (a b : List UInt8) : decide (cmpD d a b < 0) = ltD d a b := by
  unfold cmpD
  cases d
  · rw [if_neg (by simp), cmp_less, ltD_up]
  · rw [if_pos rfl, cmp_less, ltD_down]
end Go.Proofs.YtincpomenogppaaGreatDoor

namespace Go.Proofs.YtincpomenogppaaGreatDoor
open Go Go.RowKit Go.Proofs.YtincpomenogppaaGreatDoor Go.Proofs.YtincpomenogppaaGreatDoor.Lift
set_option maxRecDepth 100000

noncomputable def envM : Lift.Env := { env with mono := true }
theorem envM_ty (t : TypeId) : Lift.Env.ty envM t = Lift.Env.ty env t := rfl
noncomputable def eCompareM : SpecE envM := ⟨47, sCompare, fun args h hc => by
  unfold sCompare at hc ⊢
  split at hc
  · rename_i a b
    refine .inl (SCalls.ofRead Tryz.func47 rfl rfl fun w I G vs g r => ?_)
    obtain ⟨u, us, rfl, hu, u2, us2, rfl, hu2, h3⟩ := r
    have h3 : us2 = [] := h3
    subst h3
    obtain rfl : u = .string ⟨a.toArray⟩ := hu
    obtain rfl : u2 = .string ⟨b.toArray⟩ := hu2
    exact ⟨.int .i64 (Lib.compareBytes a b), rfl, Tryz.strings_Compare ⟨a.toArray⟩ ⟨b.toArray⟩ w⟩
  · exact hc.elim⟩
theorem SortClM_ok (a b : List UInt8) (down : Bool) (h : Heap) : SCalls envM 81 [.str a, .str b, .elem [.bool down]] h (Ret (.int .i64 (cmpD down a b)) h) := by
  refine SCalls.body Tryz.func81 rfl rfl (by simp [Tryz.ntmps81]) ?_
  refine SW.seq (SW.run [] _ ?_)
  simp only [wpC, Bool.false_eq_true, ↓reduceIte, wpS, stops, wantedA, okDst, Tryz.ntmps81, Nat.reduceLT, decide_true, step1, isOwnCall, hxOp, px, AS.eval, ofConst, ofVal, thenQ, AS.put, enumA, Nat.zero_add, Nat.reduceAdd, dropKey, reduceCtorEq, Nat.reduceEqDiff, true_and]
  refine SW.seq (SW.seq (SW.run [] _ ?_))
  cases down with
  | true =>
    simp only [wpC, Bool.false_eq_true, ↓reduceIte, wpS, stops, wantedA, okDst, Nat.reduceLT, decide_true, step1, isOwnCall, hxOp, px, pload, envM_ty, ty4, AS.eval, AS.get, Lift.look, Nat.reduceEqDiff, reduceCtorEq, Option.getD_some, okOne, TK.isAgg, beq_self_eq_true, Bool.or_true, List.length_cons, List.length_nil, Nat.zero_add, Nat.le_refl, and_self, Lift.valOf, List.take_succ_cons, List.take_nil, List.getD_cons_zero, thenQ, AS.put, dropKey, true_and]
    refine SW.run [] _ ?_
    simp only [wpC, isB, AS.get, Lift.look, tmpOf, ↓reduceIte, Option.getD_some, asB, Bool.false_eq_true, wpS, stops, wantedA, okDst, Nat.reduceLT, decide_true, step1, isOwnCall, hxOp, px, AS.eval, Nat.reduceEqDiff, reduceCtorEq, AS.put, dropKey, Nat.succ_ne_zero, thenQ, true_and]
    refine SW.run [eCompareM] _ ?_
    simp only [wpC, mayStop, stops, isFlt, envM_ty, Specs.has, eCompareM, Specs.hasO, Bool.or_false, Specs.hasH, List.any_cons, ↓reduceIte, Bool.not_true, List.any_nil, Bool.false_eq_true, wpS, wantedA, okDst, Nat.reduceLT, decide_true, step1, isOwnCall, hxOp, px, AS.eval, AS.get, Lift.look, Nat.succ_ne_zero, Option.getD_some, AS.put, dropKey, Nat.reduceEqDiff, reduceCtorEq, pcall, okArg, ofConst, ofVal, List.all_cons, List.all_nil, Bool.and_true, Specs.at, List.map_cons, List.map_nil, sCompare, and_self, thenQ, RPost, sres, Tryz.results81, sresL, sres1, Option.some.injEq, cmpD, Ret_fin, HTo_self, and_true, exists_eq_left']
  | false =>
    simp only [wpC, Bool.false_eq_true, ↓reduceIte, wpS, stops, wantedA, okDst, Nat.reduceLT, decide_true, step1, isOwnCall, hxOp, px, pload, envM_ty, ty4, AS.eval, AS.get, Lift.look, Nat.reduceEqDiff, reduceCtorEq, Option.getD_some, okOne, TK.isAgg, beq_self_eq_true, Bool.or_true, List.length_cons, List.length_nil, Nat.zero_add, Nat.le_refl, and_self, Lift.valOf, List.take_succ_cons, List.take_nil, List.getD_cons_zero, thenQ, AS.put, dropKey, true_and]
    refine SW.run [] _ ?_
    simp only [wpC, isB, AS.get, Lift.look, tmpOf, ↓reduceIte, Option.getD_some, asB, Bool.false_eq_true, thenQ, true_and]
    refine SW.run [eCompareM] _ ?_
    simp only [wpC, mayStop, stops, isFlt, envM_ty, Specs.has, eCompareM, Specs.hasO, Bool.or_false, Specs.hasH, List.any_cons, ↓reduceIte, Bool.not_true, List.any_nil, Bool.false_eq_true, wpS, wantedA, okDst, Nat.reduceLT, decide_true, step1, isOwnCall, hxOp, px, AS.eval, AS.get, Lift.look, Nat.succ_ne_zero, Option.getD_some, AS.put, dropKey, Nat.reduceEqDiff, reduceCtorEq, pcall, okArg, ofConst, ofVal, List.all_cons, List.all_nil, Bool.and_true, Specs.at, List.map_cons, List.map_nil, sCompare, and_self, thenQ, RPost, sres, Tryz.results81, sresL, sres1, Option.some.injEq, cmpD, Ret_fin, HTo_self, and_true, exists_eq_left']
theorem world_grown {w w' : World} (h1 : w'.os = w.os) (h2 : w'.tape = w.tape) (h3 : w'.output = w.output) (h4 : w.heap.size ≤ w'.heap.size) (h5 : ∀ k, k < w.heap.size → w'.heap[k]? = w.heap[k]?) (h6 : w.drawn ≤ w'.drawn) : ∃ q os, w' = Go.Sort.grow (w.drewN q) os := by
  refine ⟨w'.drawn - w.drawn, w'.heap.extract w.heap.size w'.heap.size, ?_⟩
  have hh : w'.heap = w.heap ++ w'.heap.extract w.heap.size w'.heap.size := by
    apply Array.ext_getElem?
    intro k
    by_cases hk : k < w.heap.size
    · rw [Array.getElem?_append_left hk]; exact h5 k hk
    · rw [Array.getElem?_append_right (by omega), Array.getElem?_extract]
      by_cases hk2 : k < w'.heap.size
      · rw [if_pos (by omega)]
        congr 1
        omega
      · rw [if_neg (by omega), Array.getElem?_eq_none (by omega)]
  show w' = ({ w with drawn := w.drawn + (w'.drawn - w.drawn), heap := w.heap ++ w'.heap.extract w.heap.size w'.heap.size } : World)
  rw [← hh]
  have h7 : w.drawn + (w'.drawn - w.drawn) = w'.drawn := by omega
  rw [h7]
  cases w'
  simp only at h1 h2 h3
  subst h1; subst h2; subst h3
  rfl
theorem SCalls.grown {f : FuncId} {args : List PV} {k : IntKind} {n : Int} (hc : SCalls envM f args noHeap (Ret (.int k n) noHeap)) (w : World) (vs : List Value) (hr : R0s w (fun b => b < w.heap.size) args vs) (hi : env.winv w (fun b => b < w.heap.size)) (hg : ∀ g cs, Lift.look env.gl g = some cs → R1 w (fun b => b < w.heap.size) (.elem cs) (.pointer (some ⟨g, 0, none⟩))) :
    Calls env.P f vs.toArray w (fun e w' => e = .returned (.int k n) ∧ ∃ q os, w' = Go.Sort.grow (w.drewN q) os) := by
  have g : Lift.Good envM w (fun b => b < w.heap.size) (fun _ => none) noHeap := Lift.Good.mk (fun r o h => nomatch h) (fun k r h => nomatch h) (fun _ h => h) hg hi
  refine (hc.2 w _ (fun _ => none) vs g hr).mono ?_
  rintro e w' ⟨I', G', h', g', s, q⟩
  cases e with
  | returned u =>
    obtain ⟨p', hp', q1, q2⟩ := q
    injection q1 with q1
    subst q1
    refine ⟨by rw [R_int hp'], world_grown s.os s.tape s.output s.size (fun k hk => (s.keep k hk rfl rfl).1) (s.drawn rfl)⟩
  | panicked c => obtain ⟨q1, _⟩ := q; cases q1
  | outgrown => exact q.elim
def encS (a : List UInt8) : Value := .string ⟨a.toArray⟩
theorem RL_strE {w : World} {I : Nat → Prop} : ∀ {l : List (List UInt8)} {us : List Value}, RL w I (l.map PV.str) us → us = l.map encS
  | [], _, h => h
  | i :: l, _, ⟨u, us', e, h1, h2⟩ => by
    rw [e, RL_strE h2, List.map_cons]
    have h1 : u = _ := h1
    rw [h1]
    rfl
theorem strE_RL (w : World) (I : Nat → Prop) : ∀ (l : List (List UInt8)), RL w I (l.map PV.str) (l.map encS)
  | [] => rfl
  | i :: l => ⟨_, _, rfl, rfl, strE_RL w I l⟩
theorem sort_other {α : Type} [Inhabited α] (enc : α → Value) (w : World) (blk m : Nat) (dk : Array α) (os : Array Obj) {k : Nat} (hk : k ≠ blk) (hl : k < w.heap.size) : (sortWorld enc w blk 0 m dk os).heap[k]? = w.heap[k]? := by
  show ((Go.Sort.putRow enc (Go.Sort.ahead w m) blk 0 dk).heap ++ os)[k]? = _
  rw [Array.getElem?_append_left (by rw [Go.Sort.size_putRow]; exact hl)]
  show ((w.heap.modify blk _)[k]?) = _
  rw [Array.getElem?_modify, if_neg (fun e => hk e.symm)]
theorem sort_size {α : Type} [Inhabited α] (enc : α → Value) (w : World) (blk m : Nat) (dk : Array α) (os : Array Obj) : w.heap.size ≤ (sortWorld enc w blk 0 m dk os).heap.size := by
  show _ ≤ ((Go.Sort.putRow enc (Go.Sort.ahead w m) blk 0 dk).heap ++ os).size
  rw [Array.size_append, Go.Sort.size_putRow]
  exact Nat.le_add_right ..
theorem put_cells {α : Type} [Inhabited α] (enc : α → Value) (d : Array α) (us rest : List Value) (hl : us.length = d.size) : Go.Sort.putCells enc 0 d (us ++ rest).toArray = (d.toList.map enc ++ rest).toArray := by
  unfold Go.Sort.putCells
  apply Array.ext_getElem?
  intro k
  rw [Array.getElem?_mapIdx]
  by_cases hk : k < d.size
  · have h1 : k < (us ++ rest).length := by rw [List.length_append]; omega
    have h2 : k < (d.toList.map enc ++ rest).length := by rw [List.length_append, List.length_map, Array.length_toList]; omega
    rw [List.getElem?_toArray, List.getElem?_toArray, List.getElem?_eq_getElem h1, List.getElem?_append_left (by rw [List.length_map, Array.length_toList]; exact hk), List.getElem?_map]
    simp [hk]
  · rw [List.getElem?_toArray, List.getElem?_toArray, List.getElem?_append_right (by omega), List.getElem?_append_right (by rw [List.length_map, Array.length_toList]; omega)]
    simp only [List.size_toArray, List.length_map, Array.length_toList, hl]
    cases rest[k - d.size]? with
    | none => rfl
    | some v => simp [hk]
theorem swo_cmpD (down : Bool) : Go.Sort.SWO (ltOf (cmpD down)) := by
  have e : ∀ x y : List UInt8, ltOf (cmpD down) x y = ltD down x y := fun x y => cmpD_lt down x y
  refine ⟨fun x => ?_, fun x y z h1 h2 => ?_, fun x y z h1 h2 => ?_⟩
  · rw [e]; exact ltD_irr down x
  · rw [e] at *; exact ltD_trans h1 h2
  · rw [e] at *; exact ltD_neg h1 h2
theorem SortF_ok {h : Heap} {blk cap bx : Nat} {l : List (List UInt8)} {down : Bool} (hb : h blk = some (.cells 9 (cap * 1) (l.map PV.str))) (hx : h bx = some (.cells 4 1 [.bool down])) (hl : l.length ≤ 1000000) :
    SCalls env 80 [.val (.slice (some ⟨blk, 0, none⟩) l.length cap), .val (.func (.func 81) #[] #[.pointer (some ⟨bx, 0, none⟩)])] h (fun e h' => ∃ l' : List (List UInt8), e = .ret (.tuple []) ∧ l'.Perm l ∧ l'.Pairwise (fun x y => ltD down y x = false) ∧ h' = h.put blk (.cells 9 (cap * 1) (l'.map PV.str))) := by
  refine ⟨⟨_, _, Tryz.func80, rfl, rfl⟩, fun w I G vs g r => ?_⟩
  obtain ⟨v1, t1, rfl, r1, v2, t2, rfl, r2, r3⟩ := r
  have r3 : t2 = [] := r3
  subst r3
  obtain ⟨r1, _⟩ := r1
  obtain ⟨r2, _⟩ := r2
  subst r1; subst r2
  obtain ⟨hlt, hnI, hnG, us, rest, hh, hr, hsz⟩ := g.own _ _ hb
  obtain ⟨hlx, hnIx, hnGx, ux, restx, hhx, hrx, hszx⟩ := g.own _ _ hx
  have hbne : bx ≠ blk := fun e => by
    rw [e, hb] at hx
    injection hx with hx
    injection hx with t1 t2 t3
    cases t1
  have hus := RL_strE hr
  obtain ⟨d, hd⟩ : ∃ d : Array (List UInt8), d = l.toArray := ⟨_, rfl⟩
  have hds : d.size = l.length := by rw [hd]; simp
  have hdl : d.toList = l := by rw [hd]
  have hue : us = d.toList.map encS := by rw [hus, hdl]
  have hul : us.length = d.size := by rw [hue, List.length_map, Array.length_toList]
  have eg : ∀ args w, (callFunc 81 args).run Tryz.prog w = .ok (.enter 81 args) w := enters_of Tryz.func81 (by kernel_rfl) rfl
  have hH : Go.Sort.Holds encS w blk 0 d := by
    intro j hj
    have hj2 : us[j]? = some (encS d[j]!) := by
      rw [hue, List.getElem?_map, Array.getElem?_toList, Array.getElem?_eq_getElem hj]
      simp [hj]
    rw [Nat.zero_add]
    refine ⟨cell_of_cells hh hj2, ?_⟩
    unfold World.frozen?
    rw [hh]
    simp
  have hcmp : CmpLays1 Tryz.prog 81 #[.pointer (some ⟨bx, 0, none⟩)] encS (cmpD down) blk 0 d.size w := by
    intro m os dk hs x y
    have hkeep : Keeps w I (sortWorld encS w blk 0 m dk os) (fun b => b < (sortWorld encS w blk 0 m dk os).heap.size) := fun k hk => ⟨Nat.lt_of_lt_of_le (g.imm k hk) (sort_size encS w blk m dk os), sort_other encS w blk m dk os (fun e => by subst e; exact hnI hk) (g.imm k hk)⟩
    refine SCalls.grown (SortClM_ok x y down noHeap) _ [encS x, encS y, .pointer (some ⟨bx, 0, none⟩)] ?_ (env.keepW _ _ _ _ hkeep g.inv) fun g0 cs e => R1.keeps hkeep _ _ (g.glob g0 cs e)
    refine ⟨_, _, rfl, rfl, _, _, rfl, rfl, _, _, rfl, ?_, rfl⟩
    refine ⟨⟨bx, 0, none⟩, ux, rfl, hrx.keeps (fun k hk => hkeep k hk), fun _ => ⟨_, rfl, Nat.lt_of_lt_of_le hlx (sort_size encS w blk m dk os), fun j u hj => ?_⟩⟩
    have e : (⟨bx, 0, none⟩ : Addr).add j = ⟨bx, j, none⟩ := by unfold Addr.add; split <;> simp_all
    rw [e]
    exact cell_of_cells ((sort_other encS w blk m dk os hbne hlx).trans hhx) hj
  have hcon := Any.slices_SortFunc Tryz.laysSort80 encS (fun _ => rfl) (cmpD down) (swo_cmpD down) 81 #[.pointer (some ⟨bx, 0, none⟩)] blk 0 cap d w eg hcmp hH hlt (by omega)
  rw [hds] at hcon
  refine Calls.mono hcon ?_
  rintro e w' ⟨rfl, d', n, os, hp, hsr, rfl⟩
  obtain ⟨hp1, _, hp2⟩ := hp
  have hd's : d'.size = l.length := hp1.trans hds
  have ex : ∀ q : Array (List UInt8), q.size = l.length → q.extract 0 l.length = q := fun q hq => by rw [← hq]; simp
  rw [ex d' hd's, ex d hds] at hp2
  have hperm : d'.toList.Perm l := by
    have := hp2
    rwa [hdl] at this
  have hlen : d'.toList.length = l.length := hperm.length_eq
  let w1 := Go.Sort.putRow encS (Go.Sort.ahead w n) blk 0 d'
  have hat : w1.heap[blk]? = some (.cells (d'.toList.map encS ++ rest).toArray 9 (0, 0)) := by
    show ((w.heap.modify blk _)[blk]?) = _
    rw [Array.getElem?_modify, if_pos rfl, hh]
    show some (Obj.cells (Go.Sort.putCells encS 0 d' (us ++ rest).toArray) 9 (0, 0)) = _
    rw [put_cells encS d' us rest (by rw [hul, hds, hd's])]
  have hoth : ∀ k, k ≠ blk → w1.heap[k]? = w.heap[k]? := fun k hk => by
    show ((w.heap.modify blk _)[k]?) = _
    rw [Array.getElem?_modify, if_neg (fun e => hk e.symm)]
  have hob : RObj w1 I G blk (.cells 9 (cap * 1) (d'.toList.map PV.str)) := by
    refine ⟨d'.toList.map encS, rest, hat, strE_RL _ _ _, ?_⟩
    rw [List.length_map, Array.length_toList, hd's]
    rw [hul, hds] at hsz
    exact hsz
  obtain ⟨g1, s1⟩ := g.write (w' := w1) hb rfl (by show (w.heap.modify blk _).size = _; simp) hoth rfl rfl rfl hob (fun e => nomatch e)
  obtain ⟨g2, s2⟩ := Good.below g1 (w' := sortWorld encS w blk 0 n d' os) ⟨rfl, rfl, rfl, by show w1.heap.size ≤ (w1.heap ++ os).size; simp, fun k hk => by
    show (w1.heap ++ os)[k]? = _
    rw [Array.getElem?_append_left hk]⟩ rfl
  refine ⟨I, G, _, g2, s1.trans s2, .tuple [], ⟨[], rfl, rfl⟩, d'.toList, rfl, hperm, ?_, rfl⟩
  rw [List.pairwise_iff_getElem]
  intro a b ha hb' hab
  have h1 := hsr a b (Nat.zero_le _) hab (by rw [Array.length_toList] at hb'; omega)
  rw [Array.length_toList] at ha hb'
  rw [getElem!_pos d' b hb', getElem!_pos d' a ha] at h1
  rw [Array.getElem_toList, Array.getElem_toList, ← cmpD_lt]
  exact h1
end Go.Proofs.YtincpomenogppaaGreatDoor
