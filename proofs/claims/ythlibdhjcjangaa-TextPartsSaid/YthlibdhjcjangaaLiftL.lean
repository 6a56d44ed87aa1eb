/- append, make; a slice of one's own let go. -/
import Derived.Test.YthlibdhjcjangaaLiftK
import Derived.Laws.MakeOwn
set_option linter.unusedSimpArgs false
set_option linter.unusedVariables false
namespace Go.Proofs.Ythlibdhjcjangaa.Lift
open Go Go.RowKit

section
variable {E : Env} {w w1 w' : World} {I I1 I' : Nat → Prop} {G G1 G' : Nat → Option Nat} {h h' : Heap}

/-- What is appended: elements by their cells. -/
def srcOf (sz : Nat) : PV → Option (List (List PV))
  | .list s xs => if s = sz then some xs else none
  | .val (.slice none 0 0) => some []
  | .str l => if sz = 1 then some (l.map fun b => [PV.int .u8 b.toNat]) else none
  | _ => none
def srcTy (k : TK) : PV → Bool
  | .list .. => (match k with | .slice _ => true | _ => false)
  | .val _ => (match k with | .slice _ => true | _ => false)
  | .str _ => (match k with | .str => true | _ => false)
  | _ => false
theorem RL_bytes (w : World) (I : Nat → Prop) : ∀ l : List UInt8, RE w I 1 (l.map fun b => [PV.int .u8 b.toNat]) (byteVals l)
  | [] => by simp [RE, byteVals]
  | b :: l => by
    simp only [List.map_cons, RE, byteVals]
    refine ⟨[.int .u8 b.toNat], byteVals l, rfl, rfl, ?_, RL_bytes w I l⟩
    simp [RL, R1]
theorem src_run {sz : Nat} {x : PV} {u : Value} {ys : List (List PV)} (hx : R w I x u) (hs : srcOf sz x = some ys) (hb : ys.length ≤ maxLen) : ∃ news, Builtin.lenOf u = pure ys.length ∧ RE w I sz ys news ∧
    ∀ w', (∀ k, I k → w'.heap[k]? = w.heap[k]?) → (Builtin.firstCells sz ys.length u).run E.P w' = .ok news.toArray w' := by
  cases x with
  | list s xs =>
    simp only [srcOf] at hs
    split at hs
    · rename_i e
      injection hs with hs; subst hs; subst e
      obtain ⟨A, c, us, rfl, _, _, hr, hat⟩ := R_list hx
      refine ⟨us, rfl, hr, fun w' hw => ?_⟩
      have hl := hr.length
      by_cases hne : us = []
      · subst hne
        cases A with
        | none => rfl
        | some ad =>
          simp only [Builtin.firstCells]
          rw [← hl]
          exact run_loadCells_list _ _ _ (fun j v hj => by simp at hj)
      · obtain ⟨ad, rfl, hI, hc⟩ := hat hne
        simp only [Builtin.firstCells]
        rw [← hl]
        exact run_loadCells_list _ _ _ (fun j v hj => by
          rw [World.cell?_of_block (w := w) (by rw [add_block]; exact hw _ hI)]
          exact hc j v hj)
    · cases hs
  | val v =>
    have hv := R_val hx
    subst hv
    have hv2 : u = .slice none 0 0 ∧ ys = [] := by
      unfold srcOf at hs
      split at hs
      · rename_i heq; cases heq
      · rename_i heq; injection heq with heq; injection hs with hs; exact ⟨heq, hs.symm⟩
      · rename_i heq; cases heq
      · cases hs
    obtain ⟨rfl, rfl⟩ := hv2
    exact ⟨[], rfl, by simp [RE], fun _ _ => rfl⟩
  | str l =>
    simp only [srcOf] at hs
    split at hs
    · rename_i e
      injection hs with hs; subst hs; subst e
      rw [R_str hx]
      refine ⟨byteVals l, by simp [Builtin.lenOf, size_mk], RL_bytes w I l, fun w' _ => ?_⟩
      simp only [Builtin.firstCells, List.length_map, Sem.run_pure]
      congr 1
      apply Array.ext'
      rw [extract_mk]
      simp [byteVals]
    · cases hs
  | _ => cases hs

section
variable {P : Program}
theorem run_append_room_gen (w : World) (t tx ty e : TypeId) (i : TypeInfo) (d : TypeDesc) (ht : P.underlying t = some (.slice e)) (hx : P.underlying tx = some d) (hnd : (∃ e', d = .slice e') ∨ d = .string) (hi : P.info? e = some i)
    (g sLen sCap : Nat) (cur : Array Value) (hg : w.heap[g]? = some (.cells cur e (0, 0))) (u : Value) (m : Nat) (news : List Value) (hlen : Builtin.lenOf u = pure m) (hf : (Builtin.firstCells i.size m u).run P w = .ok news.toArray w) (h1 : ∀ u ∈ news, u.oneCell' = true)
    (hroom : sLen + m ≤ sCap) (hfit : sLen * i.size + news.length ≤ cur.size) :
    (Builtin.append_ #[t, tx] ty #[.slice (some ⟨g, 0, none⟩) sLen sCap, u]).run P w =
      .ok (.slice (some ⟨g, 0, none⟩) (sLen + m) sCap) (w.setRow g (cur.toList.take (sLen * i.size) ++ news ++ cur.toList.drop (sLen * i.size + news.length)).toArray) := by
  have hst := run_storeCells_at P g (sLen * i.size) e news 0 cur w hg (by simpa using hfit) h1
  simp only [Nat.add_zero] at hst
  have ha : (⟨g, 0, none⟩ : Addr).add (sLen * i.size) = ⟨g, sLen * i.size, none⟩ := by unfold Addr.add; split <;> simp_all
  rcases hnd with ⟨e', rfl⟩ | rfl <;> simp [Builtin.append_, run_underlying ht, run_underlying hx, sizeOf, typeInfo, hi, hlen, hroom, hf, ha, hst]
theorem run_append_grow_gen (w : World) (t tx ty e : TypeId) (i : TypeInfo) (z : Value) (d : TypeDesc) (ht : P.underlying t = some (.slice e)) (hx : P.underlying tx = some d) (hnd : (∃ e', d = .slice e') ∨ d = .string) (hi : P.info? e = some i) (hz : i.zero = some z)
    (base : Option Addr) (sLen sCap : Nat) (olds : List Value) (hold : (Builtin.firstCells i.size sLen (.slice base sLen sCap)).run P w.drew = .ok olds.toArray w.drew) (u : Value) (m : Nat) (news : List Value) (hlen : Builtin.lenOf u = pure m) (hf : (Builtin.firstCells i.size m u).run P w.drew = .ok news.toArray w.drew)
    (hg : sCap < sLen + m) (h63 : sLen + m ≤ 9223372036854775807) (hfit : Builtin.nextslicecap (sLen + m) sCap * i.bytes ≤ 281474976710656) :
    (Builtin.append_ #[t, tx] ty #[.slice base sLen sCap, u]).run P w =
      .ok (.slice (some ⟨w.heap.size, 0, none⟩) (sLen + m) (grownCap w (sLen + m) sCap e))
        (w.drew.alloc (.cells (olds.toArray ++ news.toArray ++ Builtin.zeroCells z.cells (grownCap w (sLen + m) sCap e - (sLen + m))) e)) := by
  have hn : ¬ (sLen + m ≤ sCap) := by omega
  have h63' : ¬ (9223372036854775807 < ((sLen : Int) + (m : Int))) := by omega
  have h48' : ¬ (281474976710656 < Builtin.nextslicecap (sLen + m) sCap * i.bytes) := by omega
  rcases hnd with ⟨e', rfl⟩ | rfl <;> simp [Builtin.append_, run_underlying ht, run_underlying hx, sizeOf, typeInfo, zeroValue, hi, hz, hlen, hn, h63', h48', Question.forced, hf, hold, newRow, grownCap]
  all_goals
    congr 2
    apply Array.ext'
    simp [List.append_assoc]
end

/-- A slice of one's own over a heap: nil, or a row from its block's head. -/
def Own (h0 : Heap) (e : TypeId) (sz : Nat) (xs : List (List PV)) (v : PV) (h : Heap) : Prop :=
  (v = .val (.slice none 0 0) ∧ xs = [] ∧ h = h0) ∨
  ∃ r cap, v = .val (.slice (some ⟨r, 0, none⟩) xs.length cap) ∧ xs.length ≤ cap ∧ cap ≤ maxLen ∧ h0 r = none ∧ h = h0.put r (.cells e (cap * sz) xs.flatten) ∧ ∀ x ∈ xs, x.length = sz
theorem Own.nil (h0 : Heap) (e : TypeId) (sz : Nat) : Own h0 e sz [] (.val (.slice none 0 0)) h0 := .inl ⟨rfl, rfl, rfl⟩
theorem flatten_len {sz : Nat} : ∀ {xs : List (List PV)}, (∀ x ∈ xs, x.length = sz) → xs.flatten.length = xs.length * sz
  | [], _ => by simp
  | x :: xs, h => by
    have := flatten_len (sz := sz) (fun y hy => h y (List.mem_cons_of_mem _ hy) : ∀ y ∈ xs, y.length = sz)
    simp [h x (List.mem_cons_self ..), this, Nat.add_mul, Nat.add_comm]
theorem Good.old (g : Good E w I G h) {r : Nat} {o : AObj} (hr : h r = some o) : r < w.heap.size := (g.own r o hr).1

def capOf : PV → Nat
  | .val (.slice _ _ c) => c
  | _ => 0
/-- An append to a slice of one's own. -/
theorem SWO.append {ops : Array Oper} {o : Oper} {rest : List Oper} {Q : Exit → AS → Prop} {a : AS} (s x : Operand) (t tx : TypeId) (hop : o.op = .call { callee := .builtin .append, args := #[s, x], argTypes := #[t, tx] })
    {i ie ix : TyI} {e : TypeId} (ht : E.ty t = some i) (hk : i.k = .slice e) (he : E.ty e = some ie) (hpos : 0 < ie.size) (hzl : ie.zero.length = ie.size) (htx : E.ty tx = some ix) (hsx : srcTy ix.k (a.eval E x) = true)
    {h0 : Heap} {xs ys : List (List PV)} (hown : Own h0 e ie.size xs (a.eval E s) a.h) (hsrc : srcOf ie.size (a.eval E x) = some ys) (hb : (xs.length + ys.length) * ie.bytes ≤ 140737488355328) (hm : xs.length + ys.length ≤ maxLen)
    (hg : wantedA ops a o = some true) (hd : okDst a.n o.dst = true)
    (k : ∀ v h', Own h0 e ie.size (xs ++ ys) v h' → (v = .val (.slice none 0 0) → xs = [] ∧ ys = []) → (capOf v = 0 → v = a.eval E s ∧ ys = []) → SWO E ops rest Q { a.put o.dst v with h := h' }) : SWO E ops (o :: rest) Q a := by
  refine SWO.to hg hd fun w I G act g r => ?_
  have hdt := ty_under ht
  rw [hk] at hdt
  obtain ⟨inf, z, hi, hisz, hiby, hiz, hzc, _⟩ := ty_info he
  obtain ⟨d, hdx, hnd⟩ : ∃ d, E.P.underlying tx = some d ∧ ((∃ e', d = .slice e') ∨ d = .string) := by
    have hx := ty_under htx
    unfold srcTy at hsx
    cases hik : ix.k <;> rw [hik] at hx hsx <;> simp only [TK.desc] at hx
    case slice => exact ⟨_, hx, .inl ⟨_, rfl⟩⟩
    case str => exact ⟨_, hx, .inr rfl⟩
    all_goals (split at hsx <;> cases hsx)
  have hxr := r.eval g x
  obtain ⟨news, hlen, hre, hfc⟩ := src_run (E := E) hxr hsrc (by omega)
  have hnl := hre.length
  have hs' := r.eval g s
  have exec : ∀ u u' w', (Builtin.append_ #[t, tx] o.type #[act.eval s, act.eval x]).run E.P w = .ok u w' → u' = u → (execOp act.eval o).run E.P w = .ok (.value u') w' := by
    intro u u' w' hu hu'
    subst hu'
    simp [execOp, hop, resolve, invoke, builtin, hu]
  have hzsz : z.cells.size = ie.size := by rw [← hzl, ← hzc, Array.length_toList]
  -- what a grown row leaves
  have grown : ∀ (base : Option Addr) (sLen sCap : Nat) (olds : List Value), act.eval s = .slice base sLen sCap → (Builtin.firstCells inf.size sLen (.slice base sLen sCap)).run E.P w.drew = .ok olds.toArray w.drew → sLen = xs.length → sCap < xs.length + ys.length → RE w I ie.size xs olds → (∀ x ∈ xs, x.length = ie.size) →
      ∃ w2 cap, (execOp act.eval o).run E.P w = .ok (.value (.slice (some ⟨w.heap.size, 0, none⟩) (xs ++ ys).length cap)) w2 ∧ (xs ++ ys).length ≤ cap ∧ cap ≤ maxLen ∧
        w2.heap.size = w.heap.size + 1 ∧ (∀ k, k < w.heap.size → w2.heap[k]? = w.heap[k]?) ∧ w2.os = w.os ∧ w2.tape = w.tape ∧ w2.output = w.output ∧
        ∃ rs, w2.heap[w.heap.size]? = some (.cells ((olds ++ news) ++ rs).toArray e (0, 0)) ∧ (olds ++ news).length + rs.length = cap * ie.size := by
    intro base sLen sCap olds hes hold hsl hgr hro hwd
    subst hsl
    have hr := run_append_grow_gen (P := E.P) w t tx o.type e inf z d hdt hdx hnd hi hiz base xs.length sCap olds hold (act.eval x) ys.length news hlen (by rw [hisz]; exact hfc _ (fun _ _ => rfl)) hgr (by simp only [maxLen] at hm; omega) (growslice_fits hgr (by rw [hiby]; exact hb))
    have hge := grownCap_ge w (xs.length + ys.length) sCap e
    refine ⟨_, grownCap w (xs.length + ys.length) sCap e, exec _ _ _ (by rw [hes]; exact hr) (by rw [List.length_append]), by rw [List.length_append]; exact hge, grownCap_le_maxLen w _ _ e hm, by simp, fun k hk => heap_alloc_lt w.drew _ k hk, rfl, rfl, rfl, (Builtin.zeroCells z.cells (grownCap w (xs.length + ys.length) sCap e - (xs.length + ys.length))).toList, ?_, ?_⟩
    · have := heap_alloc_at w.drew (.cells (olds.toArray ++ news.toArray ++ Builtin.zeroCells z.cells (grownCap w (xs.length + ys.length) sCap e - (xs.length + ys.length))) e)
      refine this.trans ?_
      congr 2
      apply Array.ext'
      simp
    · have e1 := hro.length
      simp only [List.length_append, Array.length_toList, size_zeroCells, hzsz, e1, hnl]
      rw [← Nat.add_mul, ← Nat.add_mul]
      congr 1
      omega
  have hyw := hre.width
  rcases hown with ⟨hv, hxs, hh⟩ | ⟨r0, cap, hv, hle, hcm, h0r, hh, hwd⟩
  · -- nil
    rw [hv] at hs'
    have hs' := R_val hs'
    subst hxs
    by_cases h0 : ys.length = 0
    · have hys : ys = [] := List.eq_nil_of_length_eq_zero h0
      subst hys
      have hrun : (Builtin.append_ #[t, tx] o.type #[.slice none 0 0, act.eval x]).run E.P w = .ok (.slice none 0 0) w := by
        have hf := hfc w (fun _ _ => rfl)
        rcases hnd with ⟨e', rfl⟩ | rfl <;> simp [Builtin.append_, run_underlying hdt, run_underlying hdx, sizeOf, typeInfo, hi, hisz, hlen] at hf ⊢ <;> simp [hf]
      refine ⟨_, .slice none 0 0, w, I, G, a.h, .val (.slice none 0 0), exec _ _ _ (by rw [hs']; exact hrun) rfl, .inl rfl, g, .refl .., ⟨rfl, rfl⟩, k _ _ (.inl ⟨rfl, rfl, hh⟩) (fun _ => ⟨rfl, rfl⟩) (fun _ => ⟨hv.symm, rfl⟩)⟩
    · obtain ⟨w2, cap, hrun, hc1, hc2, hsz, hb2, ho2, ht2, hout, rs, hat, hlen2⟩ := grown none 0 0 [] hs' rfl rfl (by simp; omega) (by simp [RE]) (by simp)
      have hk2 : Keeps w I w2 I := fun k hk => ⟨hk, hb2 k (g.imm k hk)⟩
      have hob : RObj w2 I G w.heap.size (.cells e (cap * ie.size) ([] ++ ys).flatten) := ⟨[] ++ news, rs, hat, RL.keeps hk2 _ _ (by simpa using hre.flat), hlen2⟩
      obtain ⟨g', s'⟩ := g.alloc_own hsz hb2 ho2 ht2 hout hob
      refine ⟨_, _, w2, I, G, _, .val (.slice (some ⟨w.heap.size, 0, none⟩) ([] ++ ys).length cap), hrun, .inl rfl, g', s', ⟨rfl, rfl⟩, k _ _ (.inr ⟨_, cap, rfl, hc1, hc2, by rw [← hh]; exact g.fresh, by rw [hh], by simpa using hyw⟩) (fun hn => by simp at hn) (fun hc => by simp only [capOf] at hc; simp only [List.nil_append] at hc1; omega)⟩
  · -- a row
    rw [hv] at hs'
    have hs' := R_val hs'
    have hr0 : a.h r0 = some (.cells e (cap * ie.size) xs.flatten) := by rw [hh]; exact Heap.put_same _ _ _
    obtain ⟨hlt, hnI, hnG, us, rs, hcell, hrl, hsz⟩ := g.own _ _ hr0
    have hro : RE w I ie.size xs us := RE_of_flat hwd hrl
    have hul := hro.length
    by_cases hroom : xs.length + ys.length ≤ cap
    · -- there is room
      have hfit : xs.length * inf.size + news.length ≤ (us ++ rs).toArray.size := by
        simp only [List.size_toArray, List.length_append, hisz, hnl, hsz]
        rw [← Nat.add_mul]
        exact Nat.mul_le_mul_right _ hroom
      have hr := run_append_room_gen (P := E.P) w t tx o.type e inf d hdt hdx hnd hi r0 xs.length cap _ hcell (act.eval x) ys.length news hlen (by rw [hisz]; exact hfc _ (fun _ _ => rfl)) hre.one hroom hfit
      have e1 : xs.length * inf.size = us.length := by rw [hisz, hul]
      rw [e1] at hr
      have e2 : (List.take us.length (us ++ rs).toArray.toList ++ news ++ List.drop (us.length + news.length) (us ++ rs).toArray.toList) = (us ++ news) ++ rs.drop news.length := by
        simp [List.drop_append]
      rw [e2] at hr
      let w2 := w.setRow r0 ((us ++ news) ++ rs.drop news.length).toArray
      have hk2 : Keeps w I w2 I := fun k hk => ⟨hk, setRow_other w r0 k _ (fun e => hnI (e ▸ hk))⟩
      have hob : RObj w2 I G r0 (.cells e (cap * ie.size) (xs ++ ys).flatten) := by
        refine ⟨us ++ news, rs.drop news.length, setRow_heap w r0 _ _ e (0, 0) hcell, RL.keeps hk2 _ _ (by simpa using hrl.append hre.flat), ?_⟩
        have : news.length ≤ rs.length := by
          have hfit' := hfit
          simp only [List.size_toArray, List.length_append] at hfit'
          rw [e1] at hfit'
          omega
        simp; omega
      obtain ⟨g', s'⟩ := g.write hr0 rfl (by simp [w2]) (fun k hk => setRow_other w r0 k _ hk) rfl rfl rfl hob
      refine ⟨_, .slice (some ⟨r0, 0, none⟩) (xs ++ ys).length cap, w2, I, G, _, .val (.slice (some ⟨r0, 0, none⟩) (xs ++ ys).length cap), exec _ _ _ (by rw [hs']; exact hr) (by rw [List.length_append]), .inl rfl, g', s', ⟨rfl, rfl⟩, k _ _ (.inr ⟨r0, cap, rfl, by rw [List.length_append]; exact hroom, hcm, h0r, ?_, ?_⟩) (fun hn => by simp at hn) (fun hc => by simp only [capOf] at hc; have hy : ys = [] := List.eq_nil_of_length_eq_zero (by omega); exact ⟨by rw [hv, hy, List.append_nil], hy⟩)⟩
      · rw [hh, Heap.put_put]
      · intro y hy
        rcases List.mem_append.1 hy with hy | hy
        · exact hwd y hy
        · exact hyw y hy
    · -- it grows: the old row is let be
      have hold : (Builtin.firstCells inf.size xs.length (.slice (some ⟨r0, 0, none⟩) xs.length cap)).run E.P w.drew = .ok us.toArray w.drew := by
        simp only [Builtin.firstCells]
        rw [hisz, ← hul]
        exact run_loadCells_list _ _ _ (fun j v hj => by
          have e : (⟨r0, 0, none⟩ : Addr).add j = ⟨r0, j, none⟩ := by unfold Addr.add; split <;> simp_all
          rw [e]
          exact cell_of_cells (w := w.drew) hcell hj)
      obtain ⟨w2, cap2, hrun, hc1, hc2, hsz2, hb2, ho2, ht2, hout, rs2, hat, hlen2⟩ := grown (some ⟨r0, 0, none⟩) xs.length cap us hs' hold rfl (by omega) hro hwd
      obtain ⟨g1, s1⟩ := g.let_go hr0 rfl
      have hk2 : Keeps w (fun k => I k ∨ k = r0) w2 (fun k => I k ∨ k = r0) := fun k hk => ⟨hk, hb2 k (g1.imm k hk)⟩
      have hk1 : Keeps w I w2 (fun k => I k ∨ k = r0) := fun k hk => ⟨.inl hk, hb2 k (g.imm k hk)⟩
      have hob : RObj w2 (fun k => I k ∨ k = r0) G w.heap.size (.cells e (cap2 * ie.size) (xs ++ ys).flatten) :=
        ⟨us ++ news, rs2, hat, RL.keeps hk1 _ _ (by simpa using hrl.append hre.flat), hlen2⟩
      obtain ⟨g', s'⟩ := g1.alloc_own hsz2 hb2 ho2 ht2 hout hob
      refine ⟨_, _, w2, _, G, _, .val (.slice (some ⟨w.heap.size, 0, none⟩) (xs ++ ys).length cap2), hrun, .inl rfl, g', s1.trans s', ⟨rfl, rfl⟩, k _ _ (.inr ⟨_, cap2, rfl, hc1, hc2, ?_, ?_, ?_⟩) (fun hn => by simp at hn) (fun hc => by simp only [capOf] at hc; rw [List.length_append] at hc1; omega)⟩
      · have := g.fresh
        rw [hh, Heap.put_none] at this
        exact this.2
      · rw [hh, Heap.del_put _ _ _ h0r]
      · intro y hy
        rcases List.mem_append.1 hy with hy | hy
        · exact hwd y hy
        · exact hyw y hy
end
end Go.Proofs.Ythlibdhjcjangaa.Lift
