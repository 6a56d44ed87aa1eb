/- Contracts of functions that the law reaches. -/
import Derived.Test.YtincpomenogppaaGreatDoorYb
import Derived.Lib.Replace
import Derived.Lib.SlicesCompact
import Derived.Test.YtincpomenogppaaGreatDoorShelf
import Derived.Test.YtincpomenogppaaGreatDoorLiftH
set_option linter.unusedSimpArgs false
set_option linter.unusedVariables false
namespace Go.Proofs.YtincpomenogppaaGreatDoor
open Go Go.RowKit Go.Proofs.YtincpomenogppaaGreatDoor Go.Proofs.YtincpomenogppaaGreatDoor.Lift
set_option maxRecDepth 100000

theorem repl_no : ∀ (k : Nat) (s : List UInt8), s.count 10 = k → 10 ∉ Lib.replaceK [10] [32] k s ∧ (Lib.replaceK [10] [32] k s).length = s.length
  | 0, s, h => by
    rw [Lib.replaceK]
    exact ⟨List.count_eq_zero.1 h, rfl⟩
  | k + 1, s, h => by
    have hm : 10 ∈ s := List.count_pos_iff.1 (by omega)
    obtain ⟨p, r, rfl, hp⟩ := first_of hm
    have hi : Lib.index (p ++ 10 :: r) [10] = ((p.length : Nat) : Int) := by rw [Lib.index_one, idx_at hp]
    have hr : r.count 10 = k := by
      rw [List.count_append, List.count_cons_self, List.count_eq_zero.2 hp] at h
      omega
    obtain ⟨i1, i2⟩ := repl_no k r hr
    rw [Lib.replaceK_hit _ _ _ _ _ hi, List.take_left, show ([10] : List UInt8).length = 1 from rfl, ← List.drop_drop, List.drop_left, show List.drop 1 (10 :: r) = r from rfl]
    refine ⟨?_, ?_⟩
    · simp only [List.mem_append, not_or]
      exact ⟨⟨hp, by decide⟩, i1⟩
    · simp only [List.length_append, List.length_cons, List.length_nil, i2]
      omega
def replS (s : List UInt8) : List UInt8 := Lib.replaceAll s [10] [32]
theorem replS_facts (s : List UInt8) : 10 ∉ replS s ∧ (replS s).length = s.length := by
  unfold replS Lib.replaceAll Lib.replace
  rw [if_neg (by decide)]
  have : Lib.replaceNum s [10] (-1) = s.count 10 := by
    unfold Lib.replaceNum
    rw [if_pos (.inl (by omega)), Lib.count_one]
  rw [this]
  exact repl_no _ _ rfl
def nlR (q : List (List UInt8)) : List (List UInt8) := q.map (· ++ [10])
def noNl (q : List (List UInt8)) : Prop := ∀ c ∈ q, 10 ∉ c
theorem nlR_flat (q : List (List UInt8)) : (nlR q).flatten = nlL q := rfl
theorem lines_nl : ∀ {q : List (List UInt8)}, noNl q → linesOf (nlL q) = nlR q
  | [], _ => rfl
  | c :: q, h => by
    have e : nlL (c :: q) = c ++ 10 :: nlL q := by show (c ++ [10]) ++ nlL q = _; simp
    rw [e, linesOf_line (h c (List.mem_cons_self ..)), lines_nl (fun x hx => h x (List.mem_cons_of_mem _ hx))]
    rfl
theorem cut_nl (c : List UInt8) : cutS (c ++ [10]) [10] = c := by rw [cut_10, if_pos rfl]
theorem cont_nl {q : List (List UInt8)} (h : noNl q) : contL (linesOf (nlL q)) = q := by
  rw [lines_nl h]
  unfold contL nlR
  rw [List.map_map]
  have : ((fun l => cutS l [10]) ∘ fun x => x ++ [10]) = (id : List UInt8 → List UInt8) := by funext c; exact cut_nl c
  rw [this, List.map_id]
def Srt (q : List (List UInt8)) : Prop := q.Pairwise (fun a b => ltD false b a = false)
theorem srt_exists (C : List (List UInt8)) : ∃ q, C.Perm q ∧ Srt q := by
  refine ⟨C.mergeSort (fun a b => !ltD false b a), (List.mergeSort_perm C _).symm, ?_⟩
  have := List.pairwise_mergeSort (le := fun a b => !ltD false b a) (fun a b c h1 h2 => by
    simp only [Bool.not_eq_true'] at h1 h2 ⊢
    exact ltD_neg h2 h1) (fun a b => by
    cases e : ltD false b a
    · simp
    · have : ltD false a b = false := by
        cases e2 : ltD false a b
        · rfl
        · have := ltD_trans e e2
          rw [ltD_irr] at this; cases this
      simp [this]) C
  exact this.imp fun h => by simpa using h
theorem sortT_nl {C q : List (List UInt8)} (h : noNl C) (hp : C.Perm q) (hs : Srt q) : sortT false (nlL C) = nlL q := by
  have hc := cont_nl h
  have hl : (linesOf (nlL C)).length = C.length := by rw [lines_nl h]; unfold nlR; rw [List.length_map]
  unfold sortT
  rw [hc, hl]
  exact sort_law false C q hp hs
theorem noNl_perm {C q : List (List UInt8)} (h : noNl C) (hp : C.Perm q) : noNl q := fun c hc => h c (hp.mem_iff.2 hc)
theorem srt_one {q r : List (List UInt8)} (h : noNl q) (hp : q.Perm r) (hq : Srt q) (hr : Srt r) : q = r := by
  have e1 := sortT_nl h (.refl _) hq
  have e2 := sortT_nl h hp hr
  have e : nlL q = nlL r := e1.symm.trans e2
  rw [← cont_nl h, ← cont_nl (noNl_perm h hp), e]
def dd {α : Type} [DecidableEq α] : List α → List α
  | [] => []
  | [x] => [x]
  | x :: y :: r => if x = y then dd (y :: r) else x :: dd (y :: r)
theorem dd_map {α β : Type} [DecidableEq α] [DecidableEq β] (f : α → β) (hf : ∀ a b, f a = f b → a = b) : ∀ l : List α, dd (l.map f) = (dd l).map f
  | [] => rfl
  | [x] => rfl
  | x :: y :: r => by
    have ih := dd_map f hf (y :: r)
    have e : (x :: y :: r).map f = f x :: f y :: r.map f := rfl
    rw [e]
    unfold dd
    have e2 : (y :: r).map f = f y :: r.map f := rfl
    rw [e2] at ih
    by_cases hxy : x = y
    · rw [if_pos (by rw [hxy]), if_pos hxy, ih]
    · rw [if_neg (fun k => hxy (hf _ _ k)), if_neg hxy, ih]
      rfl
theorem dd_ne {α : Type} [DecidableEq α] : ∀ l : List α, l ≠ [] → dd l ≠ []
  | [x], _ => by simp [dd]
  | x :: y :: r, _ => by
    have := dd_ne (y :: r) (by simp)
    unfold dd
    split
    · exact this
    · simp
theorem dd_head {α : Type} [DecidableEq α] : ∀ l : List α, (dd l).head? = l.head?
  | [] => rfl
  | [x] => rfl
  | x :: y :: r => by
    unfold dd
    split
    · rename_i e
      rw [dd_head (y :: r), e]
      rfl
    · rfl
theorem dd_mem {α : Type} [DecidableEq α] : ∀ (l : List α) (x : α), x ∈ dd l → x ∈ l
  | [], _, h => h
  | [x], _, h => h
  | x :: y :: r, z, h => by
    unfold dd at h
    split at h
    · exact List.mem_cons_of_mem _ (dd_mem (y :: r) z h)
    · rcases List.mem_cons.1 h with rfl | h
      · exact List.mem_cons_self ..
      · exact List.mem_cons_of_mem _ (dd_mem (y :: r) z h)
theorem dd_dd {α : Type} [DecidableEq α] : ∀ l : List α, dd (dd l) = dd l
  | [] => rfl
  | [x] => rfl
  | x :: y :: r => by
    have ih := dd_dd (y :: r)
    by_cases e : x = y
    · have e1 : dd (x :: y :: r) = dd (y :: r) := by rw [dd, if_pos e]
      rw [e1, ih]
    · have e1 : dd (x :: y :: r) = x :: dd (y :: r) := by rw [dd, if_neg e]
      rw [e1]
      have hh := dd_head (y :: r)
      cases hd : dd (y :: r) with
      | nil => exact absurd hd (dd_ne _ (by simp))
      | cons z t =>
        rw [hd] at ih hh
        injection hh with hh
        subst hh
        rw [dd, if_neg e, ih]
theorem dd_run (x : List UInt8) : ∀ r : List (List UInt8), dd (x :: r) = x :: dd (r.drop (runN x r))
  | [] => rfl
  | y :: r => by
    by_cases e : x = y
    · subst e
      rw [dd, if_pos rfl, dd_run x r]
      have : runN x (x :: r) = 1 + runN x r := by show (if (x == x) = true then 1 + runN x r else 0) = _; rw [if_pos (by simp)]
      rw [this, Nat.add_comm, List.drop_succ_cons]
    · rw [dd, if_neg e]
      have : runN x (y :: r) = 0 := by show (if (y == x) = true then 1 + runN x r else 0) = _; rw [if_neg (by simpa using fun k => e k.symm)]
      rw [this, List.drop_zero]
theorem uniqF_dd : ∀ (f : Nat) (xs : List (List UInt8)), xs.length ≤ f → uniqF false f xs = nlL (dd xs)
  | 0, xs, h => by
    have : xs = [] := List.length_eq_zero_iff.1 (by omega)
    subst this; rfl
  | f + 1, [], _ => rfl
  | f + 1, x :: r, h => by
    have hr : runN x (x :: r) = 1 + runN x r := by show (if (x == x) = true then 1 + runN x r else 0) = _; rw [if_pos (by simp)]
    show uniqT false x (runN x (x :: r)) ++ uniqF false f ((x :: r).drop (runN x (x :: r))) = _
    rw [hr, Nat.add_comm, List.drop_succ_cons, uniqF_dd f _ (by rw [List.length_drop]; simp at h; omega), dd_run]
    show ([] ++ (x ++ [10])) ++ _ = _
    rfl
theorem uniq_nl {q : List (List UInt8)} (h : noNl q) : uniqS (nlL q) false = nlL (dd q) := by
  unfold uniqS
  rw [cont_nl h]
  exact uniqF_dd _ _ (by rw [lines_nl h]; unfold nlR; rw [List.length_map]; exact Nat.le_refl _)
theorem noNl_dd {q : List (List UInt8)} (h : noNl q) : noNl (dd q) := fun c hc => h c (dd_mem _ _ hc)
theorem nlR_inj (a b : List UInt8) (h : a ++ [10] = b ++ [10]) : a = b := List.append_cancel_right h
theorem dd_nlR (q : List (List UInt8)) : dd (nlR q) = nlR (dd q) := dd_map _ nlR_inj q
theorem dd_snoc {α : Type} [DecidableEq α] : ∀ (l : List α) (y : α), dd (l ++ [y]) = if l.getLast? = some y then dd l else dd l ++ [y]
  | [], y => rfl
  | [x], y => by
    show dd [x, y] = _
    unfold dd
    by_cases e : x = y
    · rw [if_pos e, if_pos (by rw [e]; rfl), e]; rfl
    · rw [if_neg e, if_neg (by simpa using e)]; rfl
  | x :: z :: r, y => by
    have ih := dd_snoc (z :: r) y
    have e1 : (x :: z :: r) ++ [y] = x :: z :: (r ++ [y]) := rfl
    have e2 : (z :: r) ++ [y] = z :: (r ++ [y]) := rfl
    have e3 : (x :: z :: r).getLast? = (z :: r).getLast? := by simp [List.getLast?_cons]
    rw [e1, e3]
    rw [e2] at ih
    unfold dd
    rw [ih]
    by_cases e : x = z
    · rw [if_pos e, if_pos e]
    · rw [if_neg e, if_neg e]
      split
      · rfl
      · rfl
theorem compact_dd (zs : List (List UInt8)) : Lib.compact zs = dd zs := by
  have key : ∀ m, m ≤ zs.length → Lib.compactUpTo zs.toArray m = dd (zs.take m) := by
    intro m
    induction m with
    | zero => intro _; rfl
    | succ m ih =>
      intro hm
      have ih := ih (by omega)
      have hlt : m < zs.length := by omega
      have e1 : Lib.compactUpTo zs.toArray (m + 1) = Lib.compactUpTo zs.toArray m ++ (if Lib.keeps zs.toArray m = true then [zs.toArray[m]!] else []) := by
        unfold Lib.compactUpTo
        rw [List.range_succ, List.filter_append, List.map_append]
        congr 1
        by_cases k : Lib.keeps zs.toArray m = true
        · rw [if_pos k]; simp [k]
        · rw [if_neg k]; simp [k]
      have e2 : zs.toArray[m]! = zs[m] := by simp [hlt]
      rw [e1, ih, e2, List.take_succ_eq_append_getElem hlt, dd_snoc]
      have hlast : (zs.take m).getLast? = if m = 0 then none else zs[m - 1]? := by
        by_cases h0 : m = 0
        · rw [if_pos h0, h0]; simp
        · rw [if_neg h0, List.getLast?_eq_getElem?, List.length_take, Nat.min_eq_left (by omega), List.getElem?_take_of_lt (by omega)]
      rw [hlast]
      have hk : Lib.keeps zs.toArray m = decide (m = 0 ∨ zs.toArray[m]! ≠ zs.toArray[m - 1]!) := rfl
      by_cases h0 : m = 0
      · rw [hk, if_pos h0, if_pos (by simp [h0]), if_neg (by simp)]
      · have hm1 : m - 1 < zs.length := by omega
        have e3 : zs.toArray[m - 1]! = zs[m - 1] := by simp [hm1]
        rw [hk, if_neg h0, e2, e3, List.getElem?_eq_getElem hm1]
        by_cases he : zs[m - 1] = zs[m]
        · rw [if_neg (by simp [h0, he]), if_pos (by rw [he]), List.append_nil]
        · rw [if_pos (by simp only [decide_eq_true_eq]; exact .inr fun k => he k.symm), if_neg (fun k => he (Option.some.inj k))]
  have := key zs.length (Nat.le_refl _)
  rw [List.take_length] at this
  exact this
end Go.Proofs.YtincpomenogppaaGreatDoor

namespace Go.Proofs.YtincpomenogppaaGreatDoor
open Go Go.RowKit Go.Proofs.YtincpomenogppaaGreatDoor Go.Proofs.YtincpomenogppaaGreatDoor.Lift
set_option maxRecDepth 100000

def MaxOK : Prop := ∀ w I, gwinv w I → ∃ m, w.cell? ⟨0, 0, none⟩ = some (.int .i64 m)
def sReplAll : List PV → Prop × PV
  | [.str s, .str a, .str b] => (s.length ≤ 1000000 ∧ a = [10] ∧ b = [32], .str (replS s))
  | _ => PBad
theorem ReplAll_ok (hM : MaxOK) (s : List UInt8) (hs : s.length ≤ 1000000) (h : Heap) : SCalls env 38 [.str s, .str [10], .str [32]] h (Ret (.str (replS s)) h) :=
  SCalls.ofBelow Tryz.func38 rfl rfl fun w I G vs g r => by
    obtain ⟨u, us, rfl, hu, u2, us2, rfl, hu2, u3, us3, rfl, hu3, h4⟩ := r
    have h4 : us3 = [] := h4
    subst h4
    obtain rfl : u = .string ⟨s.toArray⟩ := hu
    obtain rfl : u2 = .string ⟨[(10 : UInt8)].toArray⟩ := hu2
    obtain rfl : u3 = .string ⟨[(32 : UInt8)].toArray⟩ := hu3
    obtain ⟨m, hm⟩ := hM w I g.inv
    have hsz : (⟨s.toArray⟩ : ByteArray).size = s.length := by show s.toArray.size = _; exact List.size_toArray ..
    have hc : Lib.countB ⟨s.toArray⟩ ⟨[(10 : UInt8)].toArray⟩ ≤ s.length := by
      show Lib.count s.toArray.toList [10] ≤ _
      rw [Lib.count_one]
      simpa using List.count_le_length (a := (10 : UInt8)) (l := s)
    have h32 : (⟨[(32 : UInt8)].toArray⟩ : ByteArray).size = 1 := rfl
    have hr := Tryz.strings_ReplaceAll ⟨s.toArray⟩ ⟨[(10 : UInt8)].toArray⟩ ⟨[(32 : UInt8)].toArray⟩ m w (by rw [hsz]; omega) hm (by decide) (by rw [hsz, h32]; omega)
    exact ⟨.string ⟨(replS s).toArray⟩, fun _ => rfl, hr⟩
noncomputable def eReplAll (hM : MaxOK) : SpecE env := ⟨38, sReplAll, fun args h hc => by
  unfold sReplAll at hc ⊢
  split at hc
  · rename_i s a b
    obtain ⟨h1, rfl, rfl⟩ := hc
    exact .inl (ReplAll_ok hM s h1 h)
  · exact hc.elim⟩
theorem row_new {w : World} {I : Nat → Prop} {G : Nat → Option Nat} {H : Heap} (g : Lift.Good env w I G H) {blk cap : Nat} {l l' : List (List UInt8)} (hb : H blk = some (.cells 9 (cap * 1) (l.map PV.str))) (n : Nat) (os : Array Obj) (hlen : l'.length = l.length) :
    Lift.Good env (sortWorld encS w blk 0 n l'.toArray os) I G (H.put blk (.cells 9 (cap * 1) (l'.map PV.str))) ∧ Stp false w I G H (sortWorld encS w blk 0 n l'.toArray os) I G (H.put blk (.cells 9 (cap * 1) (l'.map PV.str))) := by
  obtain ⟨hlt, hnI, hnG, us, rest, hh, hr, hsz⟩ := g.own _ _ hb
  have hus := RL_strE hr
  have hul : us.length = l.length := by rw [hus, List.length_map]
  have hat : (Go.Sort.putRow encS (Go.Sort.ahead w n) blk 0 l'.toArray).heap[blk]? = some (.cells (l'.map encS ++ rest).toArray 9 (0, 0)) := by
    show ((w.heap.modify blk _)[blk]?) = _
    rw [Array.getElem?_modify, if_pos rfl, hh]
    show some (Obj.cells (Go.Sort.putCells encS 0 l'.toArray (us ++ rest).toArray) 9 (0, 0)) = _
    rw [put_cells encS l'.toArray us rest (by rw [hul, List.size_toArray, hlen])]
  have hoth : ∀ k, k ≠ blk → (Go.Sort.putRow encS (Go.Sort.ahead w n) blk 0 l'.toArray).heap[k]? = w.heap[k]? := fun k hk => by
    show ((w.heap.modify blk _)[k]?) = _
    rw [Array.getElem?_modify, if_neg (fun e => hk e.symm)]
  have hob : RObj (Go.Sort.putRow encS (Go.Sort.ahead w n) blk 0 l'.toArray) I G blk (.cells 9 (cap * 1) (l'.map PV.str)) := by
    refine ⟨l'.map encS, rest, hat, strE_RL _ _ _, ?_⟩
    rw [List.length_map, hlen]
    rw [hul] at hsz
    exact hsz
  obtain ⟨g1, s1⟩ := g.write (w' := Go.Sort.putRow encS (Go.Sort.ahead w n) blk 0 l'.toArray) hb rfl (by show (w.heap.modify blk _).size = _; simp) hoth rfl rfl rfl hob (fun e => nomatch e)
  obtain ⟨g2, s2⟩ := Good.below g1 (w' := sortWorld encS w blk 0 n l'.toArray os) ⟨rfl, rfl, rfl, by show _ ≤ ((Go.Sort.putRow encS (Go.Sort.ahead w n) blk 0 l'.toArray).heap ++ os).size; simp, fun k hk => by
    show ((Go.Sort.putRow encS (Go.Sort.ahead w n) blk 0 l'.toArray).heap ++ os)[k]? = _
    rw [Array.getElem?_append_left hk]⟩ rfl
  exact ⟨g2, s1.trans s2⟩
theorem row_holds {w : World} {I : Nat → Prop} {G : Nat → Option Nat} {H : Heap} (g : Lift.Good env w I G H) {blk cap : Nat} {l : List (List UInt8)} (hb : H blk = some (.cells 9 (cap * 1) (l.map PV.str))) : Go.Sort.Holds encS w blk 0 l.toArray := by
  obtain ⟨hlt, hnI, hnG, us, rest, hh, hr, hsz⟩ := g.own _ _ hb
  have hus := RL_strE hr
  intro j hj
  rw [List.size_toArray] at hj
  have hj2 : us[j]? = some (encS l.toArray[j]!) := by
    rw [hus, List.getElem?_map, List.getElem?_eq_getElem hj]
    simp [hj]
  rw [Nat.zero_add]
  refine ⟨cell_of_cells hh hj2, ?_⟩
  unfold World.frozen?
  rw [hh]
  simp
theorem SortRow_ok {h0 H : Heap} {l : List (List UInt8)} {u : PV} (ow : Own h0 9 1 (strL l) u H) (hl : l.length ≤ 1000000) :
    SCalls env 42 [u] H (fun e h' => ∃ l' : List (List UInt8), e = .ret (.tuple []) ∧ l.Perm l' ∧ Own h0 9 1 (strL l') u h') := by
  refine ⟨⟨_, _, Tryz.func42, rfl, rfl⟩, fun w I G vs g r => ?_⟩
  rcases ow with ⟨rfl, e2, rfl⟩ | ⟨r0, cap, rfl, h2, h3, h4, h5, h6⟩
  · have hx : l = [] := List.map_eq_nil_iff.1 e2
    subst hx
    obtain ⟨v1, t1, rfl, r1, r3⟩ := r
    have r3 : t1 = [] := r3
    subst r3
    obtain ⟨r1, _⟩ := r1
    subst r1
    refine (Tryz.slices_Sort_string_none none 0 w).mono ?_
    rintro e w' ⟨rfl, rfl⟩
    exact ⟨I, G, H, g, .refl _ _ _ _, .tuple [], ⟨[], rfl, rfl⟩, [], rfl, .refl _, Own.nil _ _ _⟩
  · have hb : H r0 = some (.cells 9 (cap * 1) (l.map PV.str)) := by rw [h5, ← strL_flat]; exact Heap.put_same _ _ _
    obtain ⟨v1, t1, rfl, r1, r3⟩ := r
    have r3 : t1 = [] := r3
    subst r3
    obtain ⟨r1, _⟩ := r1
    subst r1
    rw [strL_len] at h2 ⊢
    have hcon := Tryz.slices_Sort_string r0 0 cap l w (row_holds g hb) (g.own _ _ hb).1 (by omega)
    refine Calls.mono hcon ?_
    rintro e w' ⟨rfl, n, os, rfl⟩
    have hp : (l.mergeSort fun x y => decide (x ≤ y)).Perm l := List.mergeSort_perm _ _
    obtain ⟨g2, s2⟩ := row_new g hb n os hp.length_eq
    refine ⟨I, G, _, g2, s2, .tuple [], ⟨[], rfl, rfl⟩, _, rfl, hp.symm, .inr ⟨r0, cap, ?_, ?_, h3, h4, ?_, strL_wide _⟩⟩
    · rw [strL_len, hp.length_eq]
    · rw [strL_len, hp.length_eq]; exact h2
    · rw [h5, Heap.put_put, strL_flat]
theorem CompactRow_ok {h0 H : Heap} {l : List (List UInt8)} {u : PV} (ow : Own h0 9 1 (strL l) u H) (hl : l.length ≤ 1000000) :
    SCalls env 49 [u] H (fun e h' => ∃ A c, e = .ret (.val (.slice A (dd l).length c)) ∧ ∃ l', Own h0 9 1 (strL l') u h') := by
  refine ⟨⟨_, _, Tryz.func49, rfl, rfl⟩, fun w I G vs g r => ?_⟩
  rcases ow with ⟨rfl, e2, rfl⟩ | ⟨r0, cap, rfl, h2, h3, h4, h5, h6⟩
  · have hx : l = [] := List.map_eq_nil_iff.1 e2
    subst hx
    obtain ⟨v1, t1, rfl, r1, r3⟩ := r
    have r3 : t1 = [] := r3
    subst r3
    obtain ⟨r1, _⟩ := r1
    subst r1
    refine (Tryz.slices_Compact_string_empty none 0 w).mono ?_
    rintro e w' ⟨rfl, rfl⟩
    exact ⟨I, G, H, g, .refl _ _ _ _, .val (.slice none 0 0), ⟨rfl, rfl⟩, none, 0, rfl, [], Own.nil _ _ _⟩
  · have hb : H r0 = some (.cells 9 (cap * 1) (l.map PV.str)) := by rw [h5, ← strL_flat]; exact Heap.put_same _ _ _
    obtain ⟨v1, t1, rfl, r1, r3⟩ := r
    have r3 : t1 = [] := r3
    subst r3
    obtain ⟨r1, _⟩ := r1
    subst r1
    rw [strL_len] at h2 ⊢
    have hcon := Tryz.slices_Compact_string r0 0 cap l w (row_holds g hb) (by omega) h2
    refine Calls.mono hcon ?_
    rintro e w' ⟨rfl, n, rfl⟩
    rw [compact_dd]
    have hdl : ∀ l : List (List UInt8), (dd l).length ≤ l.length := by
      intro l
      induction l with
      | nil => simp [dd]
      | cons x l ih =>
        cases l with
        | nil => simp [dd]
        | cons y r =>
          unfold dd
          split
          · rw [List.length_cons]; omega
          · rw [List.length_cons, List.length_cons]; omega
    have hdl := hdl l
    have hll : (dd l ++ List.replicate (l.length - (dd l).length) []).length = l.length := by rw [List.length_append, List.length_replicate]; omega
    obtain ⟨g2, s2⟩ := row_new g hb n #[] hll
    have hw : sortWorld encS w r0 0 n (dd l ++ List.replicate (l.length - (dd l).length) []).toArray #[] = Go.Sort.putRow encS (Go.Sort.ahead w n) r0 0 (dd l ++ List.replicate (l.length - (dd l).length) []).toArray := by
      unfold sortWorld
      exact Go.Sort.grow_empty _
    rw [hw] at g2 s2
    refine ⟨I, G, _, g2, s2, .val (.slice (some ⟨r0, 0, none⟩) (dd l).length cap), ⟨rfl, rfl⟩, some ⟨r0, 0, none⟩, cap, rfl, dd l ++ List.replicate (l.length - (dd l).length) [], .inr ⟨r0, cap, ?_, ?_, h3, h4, ?_, strL_wide _⟩⟩
    · rw [strL_len, hll]
    · rw [strL_len, hll]; exact h2
    · rw [h5, Heap.put_put, strL_flat]
end Go.Proofs.YtincpomenogppaaGreatDoor
