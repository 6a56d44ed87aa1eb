/- Contracts of functions that the law reaches. -/
import Derived.Test.Ytekgfneapofgpaac
import Derived.Test.YtekgfneapofgpaaShelf
set_option linter.unusedSimpArgs false
set_option linter.unusedVariables false
namespace Go.Proofs.Ytekgfneapofgpaa
open Go Go.RowKit Go.Proofs.Ytekgfneapofgpaa Go.Proofs.Ytekgfneapofgpaa.Lift

/-! slices.SortFunc over items -/
theorem world_grown {w w' : World} (h1 : w'.os = w.os) (h2 : w'.tape = w.tape) (h3 : w'.output = w.output) (h4 : w.heap.size ≤ w'.heap.size) (h5 : ∀ k, k < w.heap.size → w'.heap[k]? = w.heap[k]?) (h6 : w.drawn ≤ w'.drawn) : ∃ q os, w' = Go.Sort.grow (w.drewN q) os := by
  refine ⟨w'.drawn - w.drawn, w'.heap.extract w.heap.size w'.heap.size, ?_⟩
  have hh : w'.heap = w.heap ++ w'.heap.extract w.heap.size w'.heap.size := by
    apply Array.ext_getElem?
    intro k
    by_cases hk : k < w.heap.size
    · rw [Array.getElem?_append_left hk]; exact h5 k hk
    · rw [Array.getElem?_append_right (by omega), Array.getElem?_extract]
      by_cases hk2 : k < w'.heap.size
      · rw [if_pos (by omega)]
        congr 1
        omega
      · rw [if_neg (by omega), Array.getElem?_eq_none (by omega)]
  show w' = ({ w with drawn := w.drawn + (w'.drawn - w.drawn), heap := w.heap ++ w'.heap.extract w.heap.size w'.heap.size } : World)
  rw [← hh]
  have h7 : w.drawn + (w'.drawn - w.drawn) = w'.drawn := by omega
  rw [h7]
  cases w'
  simp only at h1 h2 h3
  subst h1; subst h2; subst h3
  rfl
theorem SCalls.grown {f : FuncId} {args : List PV} {k : IntKind} {n : Int} (hc : SCalls env f args noHeap (Ret (.int k n) noHeap)) (w : World) (vs : List Value) (hr : R0s w (fun b => b < w.heap.size) args vs) :
    Calls env.P f vs.toArray w (fun e w' => e = .returned (.int k n) ∧ ∃ q os, w' = Go.Sort.grow (w.drewN q) os) := by
  have g : Lift.Good env w (fun b => b < w.heap.size) (fun _ => none) noHeap := Lift.Good.mk (fun r o h => nomatch h) (fun k r h => nomatch h) (fun _ h => h) (fun g cs h => nomatch h) trivial
  refine (hc.2 w _ (fun _ => none) vs g hr).mono ?_
  rintro e w' ⟨I', G', h', g', s, q⟩
  cases e with
  | returned u =>
    obtain ⟨p', hp', q1, q2⟩ := q
    injection q1 with q1
    subst q1
    refine ⟨by rw [R_int hp'], world_grown s.os s.tape s.output s.size (fun k hk => (s.keep k hk rfl rfl).1) (s.drawn rfl)⟩
  | panicked c => obtain ⟨q1, _⟩ := q; cases q1
  | outgrown => exact q.elim
def encI (a : Nat) : Value := .pointer (some ⟨a, 0, none⟩)
theorem RL_adrs {w : World} {I : Nat → Prop} : ∀ {l : List It} {us : List Value}, RL w I (adrs l) us → us = l.map fun i => encI i.a
  | [], _, h => h
  | i :: l, _, ⟨u, us', e, h1, h2⟩ => by
    rw [e, RL_adrs h2, List.map_cons]
    obtain ⟨h1, _⟩ := h1
    rw [h1]
    rfl
theorem adrs_RL (w : World) (I : Nat → Prop) : ∀ (l : List It), RL w I (adrs l) (l.map fun i => encI i.a)
  | [] => rfl
  | i :: l => ⟨_, _, rfl, ⟨rfl, rfl⟩, adrs_RL w I l⟩
theorem sort_other {α : Type} [Inhabited α] (enc : α → Value) (w : World) (blk m : Nat) (dk : Array α) (os : Array Obj) {k : Nat} (hk : k ≠ blk) (hl : k < w.heap.size) : (sortWorld enc w blk 0 m dk os).heap[k]? = w.heap[k]? := by
  show ((Go.Sort.putRow enc (Go.Sort.ahead w m) blk 0 dk).heap ++ os)[k]? = _
  rw [Array.getElem?_append_left (by rw [Go.Sort.size_putRow]; exact hl)]
  show ((w.heap.modify blk _)[k]?) = _
  rw [Array.getElem?_modify, if_neg (fun e => hk e.symm)]
theorem sort_size {α : Type} [Inhabited α] (enc : α → Value) (w : World) (blk m : Nat) (dk : Array α) (os : Array Obj) : w.heap.size ≤ (sortWorld enc w blk 0 m dk os).heap.size := by
  show _ ≤ ((Go.Sort.putRow enc (Go.Sort.ahead w m) blk 0 dk).heap ++ os).size
  rw [Array.size_append, Go.Sort.size_putRow]
  exact Nat.le_add_right ..
/-- What an item's block is in a world in which it stands. -/
theorem item_elem {w0 W : World} {I : Nat → Prop} {G : Nat → Option Nat} {h : Heap} (g : Lift.Good env w0 I G h) {i : It} {gn : Bool} (hi : h i.a = some (itC gn i)) (hW : W.heap[i.a]? = w0.heap[i.a]?) (hs : w0.heap.size ≤ W.heap.size) :
    R0 W (fun b => b < W.heap.size) (.elem [.int .i64 i.since, .bool gn, .int .i64 i.pid, .int .i64 i.arm, .int .i64 i.ch, .bool i.sd]) (encI i.a) := by
  obtain ⟨hlt, _, _, us, rest, hh, hr, _⟩ := g.own _ _ hi
  refine ⟨⟨i.a, 0, none⟩, us, rfl, ?_, fun _ => ⟨_, rfl, Nat.lt_of_lt_of_le hlt hs, fun j u hj => ?_⟩⟩
  · obtain ⟨u1, t1, rfl, e1, u2, t2, rfl, e2, u3, t3, rfl, e3, u4, t4, rfl, e4, u5, t5, rfl, e5, u6, t6, rfl, e6, e7⟩ := hr
    exact ⟨u1, _, rfl, e1, u2, _, rfl, e2, u3, _, rfl, e3, u4, _, rfl, e4, u5, _, rfl, e5, u6, _, rfl, e6, e7⟩
  · have e : (⟨i.a, 0, none⟩ : Addr).add j = ⟨i.a, j, none⟩ := by unfold Addr.add; split <;> simp_all
    rw [e]
    exact cell_of_cells (hW.trans hh) hj
def cfI (x y : It) : Int := ord3 x.since x.arm y.since y.arm
theorem cfI_lt (x y : It) : ltOf cfI x y = decide (x.since < y.since ∨ x.since = y.since ∧ x.arm < y.arm) := by
  unfold ltOf cfI ord3
  congr 1
  apply propext
  have key : ∀ a b : Nat, (a < b ∧ cmp3 a b = -1) ∨ (a = b ∧ cmp3 a b = 0) ∨ (b < a ∧ cmp3 a b = 1) := fun a b => by
    unfold cmp3
    rcases Nat.lt_trichotomy a b with h | h | h
    · exact .inl ⟨h, by rw [if_pos (by omega)]⟩
    · exact .inr (.inl ⟨h, by rw [if_neg (by omega), if_neg (by omega)]⟩)
    · exact .inr (.inr ⟨h, by rw [if_neg (by omega), if_pos (by omega)]⟩)
  rcases key x.since y.since with ⟨h1, h2⟩ | ⟨h1, h2⟩ | ⟨h1, h2⟩ <;> rcases key x.arm y.arm with ⟨h3, h4⟩ | ⟨h3, h4⟩ | ⟨h3, h4⟩ <;> rw [h2, h4] <;> simp <;> omega
theorem swo_cf {p : It → Prop} : Go.Sort.SWO (ltOf fun (x y : { i : It // p i }) => cfI x.1 y.1) := by
  have e : ∀ x y : { i : It // p i }, ltOf (fun (x y : { i : It // p i }) => cfI x.1 y.1) x y = decide (x.1.since < y.1.since ∨ x.1.since = y.1.since ∧ x.1.arm < y.1.arm) := fun x y => cfI_lt x.1 y.1
  refine ⟨fun x => ?_, fun x y z h1 h2 => ?_, fun x y z h1 h2 => ?_⟩
  · rw [e]; simp
  · rw [e] at *; simp at *; omega
  · rw [e] at *; simp at *; omega
theorem put_cells {α : Type} [Inhabited α] (enc : α → Value) (d : Array α) (us rest : List Value) (hl : us.length = d.size) : Go.Sort.putCells enc 0 d (us ++ rest).toArray = (d.toList.map enc ++ rest).toArray := by
  unfold Go.Sort.putCells
  apply Array.ext_getElem?
  intro k
  rw [Array.getElem?_mapIdx]
  by_cases hk : k < d.size
  · have h1 : k < (us ++ rest).length := by rw [List.length_append]; omega
    have h2 : k < (d.toList.map enc ++ rest).length := by rw [List.length_append, List.length_map, Array.length_toList]; omega
    rw [List.getElem?_toArray, List.getElem?_toArray, List.getElem?_eq_getElem h1, List.getElem?_append_left (by rw [List.length_map, Array.length_toList]; exact hk), List.getElem?_map]
    simp [hk]
  · rw [List.getElem?_toArray, List.getElem?_toArray, List.getElem?_append_right (by omega), List.getElem?_append_right (by rw [List.length_map, Array.length_toList]; omega)]
    simp only [List.size_toArray, List.length_map, Array.length_toList, hl]
    cases rest[k - d.size]? with
    | none => rfl
    | some v => simp [hk]
theorem Sort_ok {h : Heap} {blk cap : Nat} {l : List It} (hb : h blk = some (rowC cap l)) (hi : ∀ i ∈ l, h i.a = some (itC false i)) (hne : l ≠ []) (hl : l.length ≤ 1000000) :
    SCalls env 25 [.val (.slice (some ⟨blk, 0, none⟩) l.length cap), .val (.func (.func 26) #[] #[])] h (fun e h' => ∃ l' : List It, e = .ret (.tuple []) ∧ l'.Perm l ∧ l'.Pairwise (fun x y => ¬ cfI y x < 0) ∧ h' = h.put blk (rowC cap l')) := by
  refine ⟨⟨_, _, Try.func25, rfl, rfl⟩, fun w I G vs g r => ?_⟩
  obtain ⟨v1, t1, rfl, r1, v2, t2, rfl, r2, r3⟩ := r
  have r3 : t2 = [] := r3
  subst r3
  obtain ⟨r1, _⟩ := r1
  obtain ⟨r2, _⟩ := r2
  subst r1; subst r2
  obtain ⟨hlt, hnI, hnG, us, rest, hh, hr, hsz⟩ := g.own _ _ hb
  have hus := RL_adrs hr
  obtain ⟨i0, hi0⟩ := List.exists_mem_of_ne_nil l hne
  letI : Inhabited { i : It // i ∈ l } := ⟨⟨i0, hi0⟩⟩
  obtain ⟨d, hd⟩ : ∃ d : Array { i : It // i ∈ l }, d = l.attach.toArray := ⟨_, rfl⟩
  have hds : d.size = l.length := by rw [hd]; simp
  have hdl : d.toList.map Subtype.val = l := by rw [hd]; simp
  let enc : { i : It // i ∈ l } → Value := fun x => encI x.1.a
  have hue : us = d.toList.map enc := by
    rw [hus]
    conv => lhs; rw [← hdl]
    rw [List.map_map]
    rfl
  have hul : us.length = d.size := by rw [hue, List.length_map, Array.length_toList]
  have hblk : ∀ x : { i : It // i ∈ l }, x.1.a ≠ blk := fun x e => by
    have := hi x.1 x.2
    rw [e, hb] at this
    cases this
  have eg : ∀ args w, (callFunc 26 args).run Try.prog w = .ok (.enter 26 args) w := enters_of Try.func26 (by kernel_rfl) rfl
  have hH : Go.Sort.Holds enc w blk 0 d := by
    intro j hj
    have hj2 : us[j]? = some (enc d[j]!) := by
      rw [hue, List.getElem?_map, Array.getElem?_toList, Array.getElem?_eq_getElem hj]
      simp [hj]
    rw [Nat.zero_add]
    refine ⟨cell_of_cells hh hj2, ?_⟩
    unfold World.frozen?
    rw [hh]
    simp
  have hcmp : CmpLays1 Try.prog 26 #[] enc (fun x y => cfI x.1 y.1) blk 0 d.size w := by
    intro m os dk hs x y
    refine SCalls.grown (Less_ok x.1.since x.1.pid x.1.arm x.1.ch y.1.since y.1.pid y.1.arm y.1.ch false false x.1.sd y.1.sd noHeap) _ [enc x, enc y] ?_
    have k := fun z : { i : It // i ∈ l } => item_elem g (hi z.1 z.2) (sort_other enc w blk m dk os (hblk z) (g.own _ _ (hi z.1 z.2)).1) (sort_size enc w blk m dk os)
    exact ⟨_, _, rfl, k x, _, _, rfl, k y, rfl⟩
  have hcon := Any.slices_SortFunc Try.laysSort25 enc (fun _ => rfl) (fun (x y : { i : It // i ∈ l }) => cfI x.1 y.1) swo_cf 26 #[] blk 0 cap d w eg hcmp hH hlt (by omega)
  rw [hds] at hcon
  refine Calls.mono hcon ?_
  rintro e w' ⟨rfl, d', n, os, hp, hsr, rfl⟩
  obtain ⟨hp1, _, hp2⟩ := hp
  have hd's : d'.size = l.length := hp1.trans hds
  have ex : ∀ q : Array { i : It // i ∈ l }, q.size = l.length → q.extract 0 l.length = q := fun q hq => by rw [← hq]; simp
  rw [ex d' hd's, ex d hds] at hp2
  have hperm : (d'.toList.map Subtype.val).Perm l := by
    have := hp2.map Subtype.val
    rwa [hdl] at this
  have hlen : (d'.toList.map Subtype.val).length = l.length := hperm.length_eq
  -- the row is written
  let w1 := Go.Sort.putRow enc (Go.Sort.ahead w n) blk 0 d'
  have hat : w1.heap[blk]? = some (.cells (d'.toList.map enc ++ rest).toArray 61 (0, 0)) := by
    show ((w.heap.modify blk _)[blk]?) = _
    rw [Array.getElem?_modify, if_pos rfl, hh]
    show some (Obj.cells (Go.Sort.putCells enc 0 d' (us ++ rest).toArray) 61 (0, 0)) = _
    rw [put_cells enc d' us rest (by rw [hul, hds, hd's])]
  have hoth : ∀ k, k ≠ blk → w1.heap[k]? = w.heap[k]? := fun k hk => by
    show ((w.heap.modify blk _)[k]?) = _
    rw [Array.getElem?_modify, if_neg (fun e => hk e.symm)]
  have hmap : d'.toList.map enc = (d'.toList.map Subtype.val).map fun i => encI i.a := by rw [List.map_map]; rfl
  have hob : RObj w1 I G blk (rowC cap (d'.toList.map Subtype.val)) := by
    refine ⟨d'.toList.map enc, rest, hat, ?_, ?_⟩
    · rw [hmap]; exact adrs_RL _ _ _
    · rw [List.length_map, Array.length_toList, hd's]
      rw [hul, hds] at hsz
      exact hsz
  obtain ⟨g1, s1⟩ := g.write (w' := w1) hb rfl (by show (w.heap.modify blk _).size = _; simp) hoth rfl rfl rfl hob (fun _ => Nat.le_add_right ..)
  obtain ⟨g2, s2⟩ := Good.belowD g1 (w' := sortWorld enc w blk 0 n d' os) ⟨rfl, rfl, rfl, by show w1.heap.size ≤ (w1.heap ++ os).size; simp, fun k hk => by
    show (w1.heap ++ os)[k]? = _
    rw [Array.getElem?_append_left hk]⟩ (Nat.le_refl _)
  refine ⟨I, G, _, g2, s1.trans s2, .tuple [], ⟨[], rfl, rfl⟩, d'.toList.map Subtype.val, rfl, hperm, ?_, rfl⟩
  rw [List.pairwise_map, List.pairwise_iff_getElem]
  intro a b ha hb' hab
  have h1 := hsr a b (Nat.zero_le _) hab (by rw [Array.length_toList] at hb'; omega)
  rw [Array.length_toList] at ha hb'
  rw [getElem!_pos d' b hb', getElem!_pos d' a ha] at h1
  unfold ltOf at h1
  rw [decide_eq_false_iff_not] at h1
  rw [Array.getElem_toList, Array.getElem_toList]
  exact h1
end Go.Proofs.Ytekgfneapofgpaa
