/- append, make; a slice of one's own let go. -/
import Derived.Test.YtpgnfbdkhakbdaaGreatDoorLiftG
import Derived.Laws.MakeOwn
import Derived.Laws.IdiomStrings
import Derived.Laws.Cover4
import Derived.Lib.OthersKept
import Derived.LaidEqlPtr
import Derived.Lib.UnsafeStr
import Derived.Lib.Builder
import Derived.Laws.Small
import Derived.MapKept
import Derived.WideKeyRuns
set_option linter.unusedSimpArgs false
set_option linter.unusedVariables false
namespace Go.Proofs.YtpgnfbdkhakbdaaGreatDoor.Lift
open Go Go.RowKit

section
variable {E : Env} {w w1 w' : World} {I I1 I' : Nat → Prop} {G G1 G' : Nat → Option Nat} {h h' : Heap}

def srcOf (sz : Nat) : PV → Option (List (List PV))
  | .list s xs => if s = sz then some xs else none
  | .val (.slice none 0 0) => some []
  | .str l => if sz = 1 then some (l.map fun b => [PV.int .u8 b.toNat]) else none
  | _ => none
def srcTy (k : TK) : PV → Bool
  | .list .. => (match k with | .slice _ => true | _ => false)
  | .val _ => (match k with | .slice _ => true | _ => false)
  | .str _ => (match k with | .str => true | _ => false)
  | _ => false
theorem RL_bytes (w : World) (I : Nat → Prop) : ∀ l : List UInt8, RE w I 1 (l.map fun b => [PV.int .u8 b.toNat]) (byteVals l)
  | [] => by simp [RE, byteVals]
  | b :: l => by
    simp only [List.map_cons, RE, byteVals]
    refine ⟨[.int .u8 b.toNat], byteVals l, rfl, rfl, ?_, RL_bytes w I l⟩
    simp [RL, R1]
theorem src_run {sz : Nat} {x : PV} {u : Value} {ys : List (List PV)} (hx : R w I x u) (hs : srcOf sz x = some ys) (hb : ys.length ≤ maxLen) : ∃ news, Builtin.lenOf u = pure ys.length ∧ RE w I sz ys news ∧
    ∀ w', (∀ k, I k → w'.heap[k]? = w.heap[k]?) → (Builtin.firstCells sz ys.length u).run E.P w' = .ok news.toArray w' := by
  cases x with
  | list s xs =>
    simp only [srcOf] at hs
    split at hs
    · rename_i e
      injection hs with hs; subst hs; subst e
      obtain ⟨A, c, us, rfl, _, _, hr, hat⟩ := R_list hx
      refine ⟨us, rfl, hr, fun w' hw => ?_⟩
      have hl := hr.length
      by_cases hne : us = []
      · subst hne
        cases A with
        | none => rfl
        | some ad =>
          simp only [Builtin.firstCells]
          rw [← hl]
          exact run_loadCells_list _ _ _ (fun j v hj => by simp at hj)
      · obtain ⟨ad, rfl, hI, hc⟩ := hat hne
        simp only [Builtin.firstCells]
        rw [← hl]
        exact run_loadCells_list _ _ _ (fun j v hj => by
          rw [World.cell?_of_block (w := w) (by rw [add_block]; exact hw _ hI)]
          exact hc j v hj)
    · cases hs
  | val v =>
    have hv := R_val hx
    subst hv
    have hv2 : u = .slice none 0 0 ∧ ys = [] := by
      unfold srcOf at hs
      split at hs
      · rename_i heq; cases heq
      · rename_i heq; injection heq with heq; injection hs with hs; exact ⟨heq, hs.symm⟩
      · rename_i heq; cases heq
      · cases hs
    obtain ⟨rfl, rfl⟩ := hv2
    exact ⟨[], rfl, by simp [RE], fun _ _ => rfl⟩
  | str l =>
    simp only [srcOf] at hs
    split at hs
    · rename_i e
      injection hs with hs; subst hs; subst e
      rw [R_str hx]
      refine ⟨byteVals l, by simp [Builtin.lenOf, size_mk], RL_bytes w I l, fun w' _ => ?_⟩
      simp only [Builtin.firstCells, List.length_map, Sem.run_pure]
      congr 1
      apply Array.ext'
      rw [extract_mk]
      simp [byteVals]
    · cases hs
  | _ => cases hs

section
variable {P : Program}
theorem run_append_room_gen (w : World) (t tx ty e : TypeId) (i : TypeInfo) (d : TypeDesc) (ht : P.underlying t = some (.slice e)) (hx : P.underlying tx = some d) (hnd : (∃ e', d = .slice e') ∨ d = .string) (hi : P.info? e = some i)
    (g sLen sCap : Nat) (cur : Array Value) (hg : w.heap[g]? = some (.cells cur e (0, 0))) (u : Value) (m : Nat) (news : List Value) (hlen : Builtin.lenOf u = pure m) (hf : (Builtin.firstCells i.size m u).run P w = .ok news.toArray w) (h1 : ∀ u ∈ news, u.oneCell' = true)
    (hroom : sLen + m ≤ sCap) (hfit : sLen * i.size + news.length ≤ cur.size) :
    (Builtin.append_ #[t, tx] ty #[.slice (some ⟨g, 0, none⟩) sLen sCap, u]).run P w =
      .ok (.slice (some ⟨g, 0, none⟩) (sLen + m) sCap) (w.setRow g (cur.toList.take (sLen * i.size) ++ news ++ cur.toList.drop (sLen * i.size + news.length)).toArray) := by
  have hst := run_storeCells_at P g (sLen * i.size) e news 0 cur w hg (by simpa using hfit) h1
  simp only [Nat.add_zero] at hst
  have ha : (⟨g, 0, none⟩ : Addr).add (sLen * i.size) = ⟨g, sLen * i.size, none⟩ := by unfold Addr.add; split <;> simp_all
  rcases hnd with ⟨e', rfl⟩ | rfl <;> simp [Builtin.append_, run_underlying ht, run_underlying hx, sizeOf, typeInfo, hi, hlen, hroom, hf, ha, hst]
theorem run_append_grow_gen (w : World) (t tx ty e : TypeId) (i : TypeInfo) (z : Value) (d : TypeDesc) (ht : P.underlying t = some (.slice e)) (hx : P.underlying tx = some d) (hnd : (∃ e', d = .slice e') ∨ d = .string) (hi : P.info? e = some i) (hz : i.zero = some z)
    (base : Option Addr) (sLen sCap : Nat) (olds : List Value) (hold : (Builtin.firstCells i.size sLen (.slice base sLen sCap)).run P w.drew = .ok olds.toArray w.drew) (u : Value) (m : Nat) (news : List Value) (hlen : Builtin.lenOf u = pure m) (hf : (Builtin.firstCells i.size m u).run P w.drew = .ok news.toArray w.drew)
    (hg : sCap < sLen + m) (h63 : sLen + m ≤ 9223372036854775807) (hfit : Builtin.nextslicecap (sLen + m) sCap * i.bytes ≤ 281474976710656) :
    (Builtin.append_ #[t, tx] ty #[.slice base sLen sCap, u]).run P w =
      .ok (.slice (some ⟨w.heap.size, 0, none⟩) (sLen + m) (grownCap w (sLen + m) sCap e))
        (w.drew.alloc (.cells (olds.toArray ++ news.toArray ++ Builtin.zeroCells z.cells (grownCap w (sLen + m) sCap e - (sLen + m))) e)) := by
  have hn : ¬ (sLen + m ≤ sCap) := by omega
  have h63' : ¬ (9223372036854775807 < ((sLen : Int) + (m : Int))) := by omega
  have h48' : ¬ (281474976710656 < Builtin.nextslicecap (sLen + m) sCap * i.bytes) := by omega
  rcases hnd with ⟨e', rfl⟩ | rfl <;> simp [Builtin.append_, run_underlying ht, run_underlying hx, sizeOf, typeInfo, zeroValue, hi, hz, hlen, hn, h63', h48', Question.forced, hf, hold, newRow, grownCap]
  all_goals
    congr 2
    apply Array.ext'
    simp [List.append_assoc]
end

def Own (h0 : Heap) (e : TypeId) (sz : Nat) (xs : List (List PV)) (v : PV) (h : Heap) : Prop :=
  (v = .val (.slice none 0 0) ∧ xs = [] ∧ h = h0) ∨
  ∃ r cap, v = .val (.slice (some ⟨r, 0, none⟩) xs.length cap) ∧ xs.length ≤ cap ∧ cap ≤ maxLen ∧ h0 r = none ∧ h = h0.put r (.cells e (cap * sz) xs.flatten) ∧ ∀ x ∈ xs, x.length = sz
def OwnC (h0 : Heap) (e : TypeId) (sz : Nat) (xs : List (List PV)) (v : PV) (h : Heap) : Prop := (v = .cap0 ∧ xs = [] ∧ h = h0) ∨ Own h0 e sz xs v h
theorem R_cap0 {v : Value} (h : R w I .cap0 v) : ∃ A, v = .slice A 0 0 := by simpa only [R, R0, R1] using h
theorem Own.nil (h0 : Heap) (e : TypeId) (sz : Nat) : Own h0 e sz [] (.val (.slice none 0 0)) h0 := .inl ⟨rfl, rfl, rfl⟩
theorem Good.old (g : Good E w I G h) {r : Nat} {o : AObj} (hr : h r = some o) : r < w.heap.size := (g.own r o hr).1

def capOf : PV → Nat
  | .val (.slice _ _ c) => c
  | _ => 0
theorem SWO.appendC {ops : Array Oper} {o : Oper} {rest : List Oper} {Q : Exit → AS → Prop} {a : AS} (s x : Operand) (t tx : TypeId) (hop : o.op = .call { callee := .builtin .append, args := #[s, x], argTypes := #[t, tx] })
    {i ie ix : TyI} {e : TypeId} (ht : E.ty t = some i) (hk : i.k = .slice e) (he : E.ty e = some ie) (hpos : 0 < ie.size) (hzl : ie.zero.length = ie.size) (htx : E.ty tx = some ix) (hsx : srcTy ix.k (a.eval E x) = true)
    {h0 : Heap} {xs ys : List (List PV)} (hown : OwnC h0 e ie.size xs (a.eval E s) a.h) (hsrc : srcOf ie.size (a.eval E x) = some ys) (hb : (xs.length + ys.length) * ie.bytes ≤ 140737488355328) (hm : xs.length + ys.length ≤ maxLen)
    (hg : wantedA ops a o = some true) (hd : okDst a.n o.dst = true)
    (k : ∀ v h', (Own h0 e ie.size (xs ++ ys) v h' ∨ (a.eval E s = .cap0 ∧ v = .cap0 ∧ xs = [] ∧ ys = [] ∧ h' = h0)) → (v = .val (.slice none 0 0) → xs = [] ∧ ys = []) → (capOf v = 0 → v = a.eval E s ∧ ys = []) → SWO E ops rest Q { a.put o.dst v with h := h' }) : SWO E ops (o :: rest) Q a := by
  refine SWO.to hg hd fun w I G act g r => ?_
  have hdt := ty_under ht
  rw [hk] at hdt
  obtain ⟨inf, z, hi, hisz, hiby, hiz, hzc, _⟩ := ty_info he
  obtain ⟨d, hdx, hnd⟩ : ∃ d, E.P.underlying tx = some d ∧ ((∃ e', d = .slice e') ∨ d = .string) := by
    have hx := ty_under htx
    unfold srcTy at hsx
    cases hik : ix.k <;> rw [hik] at hx hsx <;> simp only [TK.desc] at hx
    case slice => exact ⟨_, hx, .inl ⟨_, rfl⟩⟩
    case str => exact ⟨_, hx, .inr rfl⟩
    all_goals (split at hsx <;> cases hsx)
  have hxr := r.eval g x
  obtain ⟨news, hlen, hre, hfc⟩ := src_run (E := E) hxr hsrc (by omega)
  have hnl := hre.length
  have hs' := r.eval g s
  have exec : ∀ u u' w', (Builtin.append_ #[t, tx] o.type #[act.eval s, act.eval x]).run E.P w = .ok u w' → u' = u → (execOp act.eval o).run E.P w = .ok (.value u') w' := by
    intro u u' w' hu hu'
    subst hu'
    simp [execOp, hop, resolve, invoke, builtin, hu]
  have hzsz : z.cells.size = ie.size := by rw [← hzl, ← hzc, Array.length_toList]
  -- what a grown row leaves
  have grown : ∀ (base : Option Addr) (sLen sCap : Nat) (olds : List Value), act.eval s = .slice base sLen sCap → (Builtin.firstCells inf.size sLen (.slice base sLen sCap)).run E.P w.drew = .ok olds.toArray w.drew → sLen = xs.length → sCap < xs.length + ys.length → RE w I ie.size xs olds → (∀ x ∈ xs, x.length = ie.size) →
      ∃ w2 cap, (execOp act.eval o).run E.P w = .ok (.value (.slice (some ⟨w.heap.size, 0, none⟩) (xs ++ ys).length cap)) w2 ∧ (xs ++ ys).length ≤ cap ∧ cap ≤ maxLen ∧
        w2.heap.size = w.heap.size + 1 ∧ (∀ k, k < w.heap.size → w2.heap[k]? = w.heap[k]?) ∧ w2.os = w.os ∧ w2.tape = w.tape ∧ (w2.output = w.output ∧ w.drawn ≤ w2.drawn) ∧
        ∃ rs, w2.heap[w.heap.size]? = some (.cells ((olds ++ news) ++ rs).toArray e (0, 0)) ∧ (olds ++ news).length + rs.length = cap * ie.size := by
    intro base sLen sCap olds hes hold hsl hgr hro hwd
    subst hsl
    have hr := run_append_grow_gen (P := E.P) w t tx o.type e inf z d hdt hdx hnd hi hiz base xs.length sCap olds hold (act.eval x) ys.length news hlen (by rw [hisz]; exact hfc _ (fun _ _ => rfl)) hgr (by simp only [maxLen] at hm; omega) (growslice_fits hgr (by rw [hiby]; exact hb))
    have hge := grownCap_ge w (xs.length + ys.length) sCap e
    refine ⟨_, grownCap w (xs.length + ys.length) sCap e, exec _ _ _ (by rw [hes]; exact hr) (by rw [List.length_append]), by rw [List.length_append]; exact hge, grownCap_le_maxLen w _ _ e hm, by simp, fun k hk => heap_alloc_lt w.drew _ k hk, rfl, rfl, ⟨rfl, Nat.le_succ _⟩, (Builtin.zeroCells z.cells (grownCap w (xs.length + ys.length) sCap e - (xs.length + ys.length))).toList, ?_, ?_⟩
    · have := heap_alloc_at w.drew (.cells (olds.toArray ++ news.toArray ++ Builtin.zeroCells z.cells (grownCap w (xs.length + ys.length) sCap e - (xs.length + ys.length))) e)
      refine this.trans ?_
      congr 2
      apply Array.ext'
      simp
    · have e1 := hro.length
      simp only [List.length_append, Array.length_toList, size_zeroCells, hzsz, e1, hnl]
      rw [← Nat.add_mul, ← Nat.add_mul]
      congr 1
      omega
  have hyw := hre.width
  rcases hown with ⟨hv, hxs, hh⟩ | ⟨hv, hxs, hh⟩ | ⟨r0, cap, hv, hle, hcm, h0r, hh, hwd⟩
  · -- empty, without room
    rw [hv] at hs'
    obtain ⟨A, hs'⟩ := R_cap0 hs'
    subst hxs
    by_cases h0 : ys.length = 0
    · have hys : ys = [] := List.eq_nil_of_length_eq_zero h0
      subst hys
      have hrun : (Builtin.append_ #[t, tx] o.type #[.slice A 0 0, act.eval x]).run E.P w = .ok (.slice A 0 0) w := by
        have hf := hfc w (fun _ _ => rfl)
        have hn0 : news = [] := List.eq_nil_of_length_eq_zero (by simpa using hnl)
        subst hn0
        cases A <;> rcases hnd with ⟨e', rfl⟩ | rfl <;> simp [Builtin.append_, run_underlying hdt, run_underlying hdx, sizeOf, typeInfo, hi, hisz, hlen, storeCells] at hf ⊢ <;> simp [hf, storeCells]
      refine ⟨_, .slice A 0 0, w, I, G, a.h, .cap0, exec _ _ _ (by rw [hs']; exact hrun) rfl, .inl rfl, g, .refl .., ⟨A, rfl⟩, k _ _ (.inr ⟨hv, rfl, rfl, rfl, hh⟩) (fun hn => by cases hn) (fun _ => ⟨hv.symm, rfl⟩)⟩
    · obtain ⟨w2, cap, hrun, hc1, hc2, hsz, hb2, ho2, ht2, hout, rs, hat, hlen2⟩ := grown A 0 0 [] hs' (by cases A <;> simp [Builtin.firstCells, loadCells, loadCellsFrom]) rfl (by simp; omega) (by simp [RE]) (by simp)
      have hk2 : Keeps w I w2 I := fun k hk => ⟨hk, hb2 k (g.imm k hk)⟩
      have hob : RObj w2 I G w.heap.size (.cells e (cap * ie.size) ([] ++ ys).flatten) := ⟨[] ++ news, rs, hat, RL.keeps hk2 _ _ (by simpa using hre.flat), hlen2⟩
      obtain ⟨g', s'⟩ := g.alloc_own hsz hb2 ho2 ht2 hout.1 hob (fun _ => hout.2)
      refine ⟨_, _, w2, I, G, _, .val (.slice (some ⟨w.heap.size, 0, none⟩) ([] ++ ys).length cap), hrun, .inl rfl, g', s', ⟨rfl, rfl⟩, k _ _ (.inl (.inr ⟨_, cap, rfl, hc1, hc2, by rw [← hh]; exact g.fresh, by rw [hh], by simpa using hyw⟩)) (fun hn => by simp at hn) (fun hc => by simp only [capOf] at hc; simp only [List.nil_append] at hc1; omega)⟩
  · -- nil
    rw [hv] at hs'
    have hs' := R_val hs'
    subst hxs
    by_cases h0 : ys.length = 0
    · have hys : ys = [] := List.eq_nil_of_length_eq_zero h0
      subst hys
      have hrun : (Builtin.append_ #[t, tx] o.type #[.slice none 0 0, act.eval x]).run E.P w = .ok (.slice none 0 0) w := by
        have hf := hfc w (fun _ _ => rfl)
        rcases hnd with ⟨e', rfl⟩ | rfl <;> simp [Builtin.append_, run_underlying hdt, run_underlying hdx, sizeOf, typeInfo, hi, hisz, hlen] at hf ⊢ <;> simp [hf]
      refine ⟨_, .slice none 0 0, w, I, G, a.h, .val (.slice none 0 0), exec _ _ _ (by rw [hs']; exact hrun) rfl, .inl rfl, g, .refl .., ⟨rfl, rfl⟩, k _ _ (.inl (.inl ⟨rfl, rfl, hh⟩)) (fun _ => ⟨rfl, rfl⟩) (fun _ => ⟨hv.symm, rfl⟩)⟩
    · obtain ⟨w2, cap, hrun, hc1, hc2, hsz, hb2, ho2, ht2, hout, rs, hat, hlen2⟩ := grown none 0 0 [] hs' rfl rfl (by simp; omega) (by simp [RE]) (by simp)
      have hk2 : Keeps w I w2 I := fun k hk => ⟨hk, hb2 k (g.imm k hk)⟩
      have hob : RObj w2 I G w.heap.size (.cells e (cap * ie.size) ([] ++ ys).flatten) := ⟨[] ++ news, rs, hat, RL.keeps hk2 _ _ (by simpa using hre.flat), hlen2⟩
      obtain ⟨g', s'⟩ := g.alloc_own hsz hb2 ho2 ht2 hout.1 hob (fun _ => hout.2)
      refine ⟨_, _, w2, I, G, _, .val (.slice (some ⟨w.heap.size, 0, none⟩) ([] ++ ys).length cap), hrun, .inl rfl, g', s', ⟨rfl, rfl⟩, k _ _ (.inl (.inr ⟨_, cap, rfl, hc1, hc2, by rw [← hh]; exact g.fresh, by rw [hh], by simpa using hyw⟩)) (fun hn => by simp at hn) (fun hc => by simp only [capOf] at hc; simp only [List.nil_append] at hc1; omega)⟩
  · -- a row
    rw [hv] at hs'
    have hs' := R_val hs'
    have hr0 : a.h r0 = some (.cells e (cap * ie.size) xs.flatten) := by rw [hh]; exact Heap.put_same _ _ _
    obtain ⟨hlt, hnI, hnG, us, rs, hcell, hrl, hsz⟩ := g.own _ _ hr0
    have hro : RE w I ie.size xs us := RE_of_flat hwd hrl
    have hul := hro.length
    by_cases hroom : xs.length + ys.length ≤ cap
    · -- there is room
      have hfit : xs.length * inf.size + news.length ≤ (us ++ rs).toArray.size := by
        simp only [List.size_toArray, List.length_append, hisz, hnl, hsz]
        rw [← Nat.add_mul]
        exact Nat.mul_le_mul_right _ hroom
      have hr := run_append_room_gen (P := E.P) w t tx o.type e inf d hdt hdx hnd hi r0 xs.length cap _ hcell (act.eval x) ys.length news hlen (by rw [hisz]; exact hfc _ (fun _ _ => rfl)) hre.one hroom hfit
      have e1 : xs.length * inf.size = us.length := by rw [hisz, hul]
      rw [e1] at hr
      have e2 : (List.take us.length (us ++ rs).toArray.toList ++ news ++ List.drop (us.length + news.length) (us ++ rs).toArray.toList) = (us ++ news) ++ rs.drop news.length := by
        simp [List.drop_append]
      rw [e2] at hr
      let w2 := w.setRow r0 ((us ++ news) ++ rs.drop news.length).toArray
      have hk2 : Keeps w I w2 I := fun k hk => ⟨hk, setRow_other w r0 k _ (fun e => hnI (e ▸ hk))⟩
      have hob : RObj w2 I G r0 (.cells e (cap * ie.size) (xs ++ ys).flatten) := by
        refine ⟨us ++ news, rs.drop news.length, setRow_heap w r0 _ _ e (0, 0) hcell, RL.keeps hk2 _ _ (by simpa using hrl.append hre.flat), ?_⟩
        have : news.length ≤ rs.length := by
          have hfit' := hfit
          simp only [List.size_toArray, List.length_append] at hfit'
          rw [e1] at hfit'
          omega
        simp; omega
      obtain ⟨g', s'⟩ := g.write hr0 rfl (by simp [w2]) (fun k hk => setRow_other w r0 k _ hk) rfl rfl rfl hob
      refine ⟨_, .slice (some ⟨r0, 0, none⟩) (xs ++ ys).length cap, w2, I, G, _, .val (.slice (some ⟨r0, 0, none⟩) (xs ++ ys).length cap), exec _ _ _ (by rw [hs']; exact hr) (by rw [List.length_append]), .inl rfl, g', s', ⟨rfl, rfl⟩, k _ _ (.inl (.inr ⟨r0, cap, rfl, by rw [List.length_append]; exact hroom, hcm, h0r, ?_, ?_⟩)) (fun hn => by simp at hn) (fun hc => by simp only [capOf] at hc; have hy : ys = [] := List.eq_nil_of_length_eq_zero (by omega); exact ⟨by rw [hv, hy, List.append_nil], hy⟩)⟩
      · rw [hh, Heap.put_put]
      · intro y hy
        rcases List.mem_append.1 hy with hy | hy
        · exact hwd y hy
        · exact hyw y hy
    · -- it grows: the old row is let be
      have hold : (Builtin.firstCells inf.size xs.length (.slice (some ⟨r0, 0, none⟩) xs.length cap)).run E.P w.drew = .ok us.toArray w.drew := by
        simp only [Builtin.firstCells]
        rw [hisz, ← hul]
        exact run_loadCells_list _ _ _ (fun j v hj => by
          have e : (⟨r0, 0, none⟩ : Addr).add j = ⟨r0, j, none⟩ := by unfold Addr.add; split <;> simp_all
          rw [e]
          exact cell_of_cells (w := w.drew) hcell hj)
      obtain ⟨w2, cap2, hrun, hc1, hc2, hsz2, hb2, ho2, ht2, hout, rs2, hat, hlen2⟩ := grown (some ⟨r0, 0, none⟩) xs.length cap us hs' hold rfl (by omega) hro hwd
      obtain ⟨g1, s1⟩ := g.let_go hr0 rfl
      have hk2 : Keeps w (fun k => I k ∨ k = r0) w2 (fun k => I k ∨ k = r0) := fun k hk => ⟨hk, hb2 k (g1.imm k hk)⟩
      have hk1 : Keeps w I w2 (fun k => I k ∨ k = r0) := fun k hk => ⟨.inl hk, hb2 k (g.imm k hk)⟩
      have hob : RObj w2 (fun k => I k ∨ k = r0) G w.heap.size (.cells e (cap2 * ie.size) (xs ++ ys).flatten) :=
        ⟨us ++ news, rs2, hat, RL.keeps hk1 _ _ (by simpa using hrl.append hre.flat), hlen2⟩
      obtain ⟨g', s'⟩ := g1.alloc_own hsz2 hb2 ho2 ht2 hout.1 hob (fun _ => hout.2)
      refine ⟨_, _, w2, _, G, _, .val (.slice (some ⟨w.heap.size, 0, none⟩) (xs ++ ys).length cap2), hrun, .inl rfl, g', s1.trans s', ⟨rfl, rfl⟩, k _ _ (.inl (.inr ⟨_, cap2, rfl, hc1, hc2, ?_, ?_, ?_⟩)) (fun hn => by simp at hn) (fun hc => by simp only [capOf] at hc; rw [List.length_append] at hc1; omega)⟩
      · have := g.fresh
        rw [hh, Heap.put_none] at this
        exact this.2
      · rw [hh, Heap.del_put _ _ _ h0r]
      · intro y hy
        rcases List.mem_append.1 hy with hy | hy
        · exact hwd y hy
        · exact hyw y hy
theorem SWO.append {ops : Array Oper} {o : Oper} {rest : List Oper} {Q : Exit → AS → Prop} {a : AS} (s x : Operand) (t tx : TypeId) (hop : o.op = .call { callee := .builtin .append, args := #[s, x], argTypes := #[t, tx] })
    {i ie ix : TyI} {e : TypeId} (ht : E.ty t = some i) (hk : i.k = .slice e) (he : E.ty e = some ie) (hpos : 0 < ie.size) (hzl : ie.zero.length = ie.size) (htx : E.ty tx = some ix) (hsx : srcTy ix.k (a.eval E x) = true)
    {h0 : Heap} {xs ys : List (List PV)} (hown : Own h0 e ie.size xs (a.eval E s) a.h) (hsrc : srcOf ie.size (a.eval E x) = some ys) (hb : (xs.length + ys.length) * ie.bytes ≤ 140737488355328) (hm : xs.length + ys.length ≤ maxLen)
    (hg : wantedA ops a o = some true) (hd : okDst a.n o.dst = true)
    (k : ∀ v h', Own h0 e ie.size (xs ++ ys) v h' → (v = .val (.slice none 0 0) → xs = [] ∧ ys = []) → (capOf v = 0 → v = a.eval E s ∧ ys = []) → SWO E ops rest Q { a.put o.dst v with h := h' }) : SWO E ops (o :: rest) Q a :=
  SWO.appendC s x t tx hop ht hk he hpos hzl htx hsx (.inr hown) hsrc hb hm hg hd fun v h' ow h1 h2 => by
    rcases ow with ow | ⟨e1, _⟩
    · exact k v h' ow h1 h2
    · rcases hown with ⟨hv, _⟩ | ⟨r0, cap, hv, _⟩ <;> (rw [hv] at e1; cases e1)
end
end Go.Proofs.YtpgnfbdkhakbdaaGreatDoor.Lift

namespace Go.Proofs.YtpgnfbdkhakbdaaGreatDoor.Lift
open Go Go.RowKit

section
variable {E : Env} {w w1 w' : World} {I I1 I' : Nat → Prop} {G G1 G' : Nat → Option Nat} {h h' h0 : Heap}

theorem rep_len {α : Type} (z : List α) : ∀ n, (List.replicate n z).flatten.length = n * z.length
  | 0 => by simp
  | n + 1 => by rw [List.replicate_succ, List.flatten_cons, List.length_append, rep_len z n, Nat.add_mul, Nat.one_mul, Nat.add_comm]
theorem SWO.make {ops : Array Oper} {o : Oper} {rest : List Oper} {Q : Exit → AS → Prop} {a : AS} (t : TypeId) (l c : Operand) (hop : o.op = .makeSlice t l c) {i ie : TyI} {e : TypeId} (ht : E.ty t = some i) (hk : i.k = .slice e) (he : E.ty e = some ie) (hzl : ie.zero.length = ie.size) (hz : okZero ie = true) (hzp : 0 < ie.size)
    {kl kc : IntKind} {n : Nat} (hl : a.eval E l = .int kl n) (hc : a.eval E c = .int kc n) (hb : ie.bytes * n ≤ 281474976710656) (hm : n ≤ 9223372036854775807) (hg : wantedA ops a o = some true) (hd : okDst a.n o.dst = true)
    (k : ∀ r, a.h r = none → SWO E ops rest Q { a.put o.dst (.val (.slice (some ⟨r, 0, none⟩) n n)) with h := a.h.put r (.cells e (n * ie.size) (List.replicate n (ie.zero.map ofVal)).flatten) }) : SWO E ops (o :: rest) Q a := by
  refine SWO.to hg hd fun w I G act g r => ?_
  have hdt := ty_under ht
  rw [hk] at hdt
  obtain ⟨inf, z, hi, hisz, hiby, hiz, hzc, _⟩ := ty_info he
  have hl' := r.eval g l
  rw [hl] at hl'
  have hc' := r.eval g c
  rw [hc] at hc'
  have hr := run_make (P := E.P) w t e inf z hdt hi hiz kl kc n n (by omega) (by omega) (by rw [hiby]; omega) (by omega)
  simp only [Int.toNat_natCast] at hr
  have hcells : madeCells z.cells (n * inf.size) = (List.replicate n ie.zero).flatten.toArray := by
    have := zeroRow ie.zero n
    have e2 : z.cells = ie.zero.toArray := by apply Array.ext'; simp [hzc]
    unfold madeCells
    rw [e2, hisz, ← hzl]
    exact this
  rw [hcells] at hr
  have hRL : ∀ (w2 : World) (I2 : Nat → Prop), RL w2 I2 (List.replicate n (ie.zero.map ofVal)).flatten (List.replicate n ie.zero).flatten := by
    intro w2 I2
    clear hr hcells hl' hc' hb hm hl hc k
    induction n with
    | zero => simp [RL]
    | succ n ih =>
      simp only [List.replicate_succ, List.flatten_cons]
      exact (RL_zero w2 I2 hz).append ih
  have hob : RObj (w.alloc (.cells (List.replicate n ie.zero).flatten.toArray e)) I G w.heap.size (.cells e (n * ie.size) (List.replicate n (ie.zero.map ofVal)).flatten) :=
    ⟨_, [], by rw [heap_alloc_at, List.append_nil], hRL _ _, by rw [rep_len, hzl, List.length_nil, Nat.add_zero]⟩
  obtain ⟨g', s⟩ := g.alloc_own' _ hob
  refine ⟨_, .slice (some ⟨w.heap.size, 0, none⟩) n n, _, I, G, _, .val (.slice (some ⟨w.heap.size, 0, none⟩) n n), ?_, .inl rfl, g', s, ⟨rfl, rfl⟩, k _ g.fresh⟩
  simp only [execOp, hop, Sem.run_bind, R_int hl', R_int hc', hr, Result.andThen_ok, Sem.run_pure]
theorem RS.set {a : AS} {act : Act} (r : RS E w I a act) (t : Nat) (v : PV) (hv : R w I v (act.tmps.getD t undef)) (h' : Heap) : RS E w I { a.put (some t) v with h := h' } act := by
  refine ⟨r.defers, r.size, fun u => ?_⟩
  have := AS.get_put a t v u
  show R w I ((a.put (some t) v).get u) _
  rw [this]
  split
  · rename_i e; subst e; exact hv
  · exact r.slot u
theorem SW.own_let {c : Code} {Q : Exit → AS → Prop} {a : AS} (t : Nat) {e : TypeId} {sz : Nat} {xs : List (List PV)} {v : PV} (hv : a.get t = v) (hown : Own h0 e sz xs v a.h) (k : SW E c Q { a.put (some t) (.list sz xs) with h := h0 }) : SW E c Q a := by
  intro w I G act g r
  have hs := r.slot t
  rw [hv] at hs
  rcases hown with ⟨rfl, rfl, hh⟩ | ⟨r0, cap, rfl, hle, hcm, h0r, hh, hwd⟩
  · have hs := R_val hs
    have r' := r.set t (.list sz []) (by rw [hs]; show R1 w I _ _; simp only [R1]; exact ⟨none, 0, [], rfl, Nat.le_refl _, by simp [maxLen], by simp [RE], fun h => absurd rfl h⟩) h0
    have := k w I G act (by show Good E w I G h0; rw [← hh]; exact g) r'
    simp only at this
    rw [hh]
    exact this
  · have hs := R_val hs
    have hr0 : a.h r0 = some (.cells e (cap * sz) xs.flatten) := by rw [hh]; exact Heap.put_same _ _ _
    obtain ⟨g', s⟩ := g.let_go hr0 rfl
    obtain ⟨_, _, _, us, rs, hcell, hrl, hsz⟩ := g.own _ _ hr0
    have hk := s.keeps g
    have hdel : a.h.del r0 = h0 := by rw [hh, Heap.del_put _ _ _ h0r]
    rw [hdel] at g' s
    have r' := (r.keeps hk).set t (.list sz xs) (by
      rw [hs]
      exact R1_row hcell (.inr rfl) (RE_of_flat hwd (RL.keeps hk _ _ hrl)) rfl hle hcm) h0
    exact wp_mono (k w _ G act g' r') fun _ _ _ p => p.trans s

theorem Yld.convert_bytes_str {a : AS} {s t : TypeId} (x : Operand) {i ie j : TyI} {e : TypeId} {l : List UInt8} (hs : E.ty s = some i) (hk : i.k = .slice e) (he : E.ty e = some ie) (hke : ie.k = .int .u8) (ht : E.ty t = some j) (hj : j.k = .str) (hx : a.eval E x = .list 1 (l.map fun b => [PV.int .u8 b.toNat])) : Yld E a (.convert s t x) (.str l) := by
  intro w I G act o ho g r
  have h1 := r.eval g x
  rw [hx] at h1
  obtain ⟨A, c, us, e1, hl, hm, hr, hat⟩ := R_list h1
  have hds := ty_under hs; rw [hk] at hds
  have hdt := ty_under ht; rw [hj] at hdt
  have hde := ty_under he; rw [hke] at hde
  have hus : us = byteVals l := by
    clear hat e1 hl hx h1
    induction l generalizing us with
    | nil => simpa [RE, byteVals] using hr
    | cons b l ih =>
      simp only [List.map_cons, RE] at hr
      obtain ⟨u1, u2, rfl, _, h3, h4⟩ := hr
      simp only [RL, R1] at h3
      obtain ⟨u, us', rfl, rfl, rfl⟩ := h3
      rw [ih _ h4]; rfl
  refine ⟨.string ⟨l.toArray⟩, ?_, rfl⟩
  have hrun : (convert s t (act.eval x)).run E.P w = .ok (.string ⟨l.toArray⟩) w := by
    rw [e1]
    rw [List.length_map] at hl ⊢
    cases hA : A with
    | none =>
      have : l = [] := by
        have hne : us = [] := by
          by_cases hne : us = []
          · exact hne
          · obtain ⟨ad, e2, _⟩ := hat hne
            rw [hA] at e2; cases e2
        rw [hus] at hne
        simpa [byteVals] using hne
      subst this
      simp [convert, run_underlying hds, run_underlying hdt, run_underlying hde, Conv.bytesToString]
      rfl
    | some ad =>
      refine run_convert_bytes_back w s t e ad c l hds hde hdt (fun j hj' => ?_)
      have hne : us ≠ [] := by
        rw [hus]
        intro hn
        have : l = [] := by simpa [byteVals] using hn
        subst this
        simp at hj'
      obtain ⟨ad', e2, _, hc⟩ := hat hne
      rw [hA] at e2
      injection e2 with e2; subst e2
      refine hc j _ ?_
      rw [hus]
      simp [byteVals, hj']
  simp only [execOp, ho, Sem.run_bind, hrun]
  rfl
def encL (r : Int) : List UInt8 := (Utf8.encode r).data.toList
theorem runesBytes_eq (ns : List Int) : runesBytes ns = ⟨(ns.flatMap encL).toArray⟩ := by
  unfold runesBytes
  have key : ∀ (ns : List Int) (s : ByteArray), ns.foldl (fun r n => r ++ Utf8.encode n) s = ⟨(s.data.toList ++ ns.flatMap encL).toArray⟩ := by
    intro ns
    induction ns with
    | nil => intro s; simp
    | cons n ns ih =>
      intro s
      simp only [List.foldl_cons]
      rw [ih, Go.Joins.data_append]
      simp [encL]
  rw [key]
  rfl
theorem ints_of_RE {k : IntKind} {ns : List Int} : ∀ {us : List Value}, RE w I 1 (ns.map fun n => [PV.int k n]) us → us = ns.map (Value.int k) := by
  induction ns with
  | nil => intro us hr; simpa [RE] using hr
  | cons n ns ih =>
    intro us hr
    simp only [List.map_cons, RE] at hr
    obtain ⟨u1, u2, rfl, _, h3, h4⟩ := hr
    simp only [RL, R1] at h3
    obtain ⟨u, us', rfl, rfl, rfl⟩ := h3
    rw [ih h4]; rfl
theorem Yld.convert_runes_str {a : AS} {s t : TypeId} (x : Operand) {i ie j : TyI} {e : TypeId} {ns : List Int} (hs : E.ty s = some i) (hk : i.k = .slice e) (he : E.ty e = some ie) (hke : ie.k = .int .i32) (ht : E.ty t = some j) (hj : j.k = .str) (hx : a.eval E x = .list 1 (ns.map fun n => [PV.int .i32 n])) : Yld E a (.convert s t x) (.str (ns.flatMap encL)) := by
  intro w I G act o ho g r
  have h1 := r.eval g x
  rw [hx] at h1
  obtain ⟨A, c, us, e1, hl, hm, hr, hat⟩ := R_list h1
  have hds := ty_under hs; rw [hk] at hds
  have hdt := ty_under ht; rw [hj] at hdt
  have hde := ty_under he; rw [hke] at hde
  have hus := ints_of_RE hr
  refine ⟨.string ⟨(ns.flatMap encL).toArray⟩, ?_, rfl⟩
  have hrun : (convert s t (act.eval x)).run E.P w = .ok (.string ⟨(ns.flatMap encL).toArray⟩) w := by
    rw [e1]
    rw [List.length_map] at hl ⊢
    cases hA : A with
    | none =>
      have : ns = [] := by
        have hne : us = [] := by
          by_cases hne : us = []
          · exact hne
          · obtain ⟨ad, e2, _⟩ := hat hne
            rw [hA] at e2; cases e2
        rw [hus] at hne
        simpa using hne
      subst this
      simp [convert, run_underlying hds, run_underlying hdt, run_underlying hde, Conv.runesToString]
      rfl
    | some ad =>
      have hload : (loadCells ad ns.length).run E.P w = .ok (ns.map (Value.int .i32)).toArray w := by
        have := run_loadCells_list (P := E.P) w ad (ns.map (Value.int .i32)) (fun j v hj => by
          have hne : us ≠ [] := by rw [hus]; intro hn; rw [hn] at hj; simp at hj
          obtain ⟨ad', e2, _, hc⟩ := hat hne
          rw [hA] at e2
          injection e2 with e2; subst e2
          exact hc j v (by rw [hus]; exact hj))
        simpa using this
      have := run_runesToString w ad ns.length c ns hload
      rw [runesBytes_eq] at this
      simp only [convert, Sem.run_bind, run_underlying hds, run_underlying hdt, run_underlying hde, Result.andThen_ok]
      exact this
  simp only [execOp, ho, Sem.run_bind, hrun]
  rfl
theorem Yld.convert_int_str {a : AS} {s t : TypeId} (x : Operand) {i j : TyI} {k k' : IntKind} {n : Int} (hs : E.ty s = some i) (hk : i.k = .int k') (ht : E.ty t = some j) (hj : j.k = .str) (hx : a.eval E x = .int k n) : Yld E a (.convert s t x) (.str (encL n)) := by
  intro w I G act o ho g r
  have h1 := r.eval g x
  rw [hx] at h1
  have hds := ty_under hs; rw [hk] at hds
  have hdt := ty_under ht; rw [hj] at hdt
  refine ⟨.string ⟨(encL n).toArray⟩, ?_, rfl⟩
  have e : (⟨(encL n).toArray⟩ : ByteArray) = Utf8.encode n := by unfold encL; exact Go.Joins.bytes_eta _
  rw [e]
  simp [execOp, ho, R_int h1, convert, run_underlying hds, run_underlying hdt, Conv.intToString]
def runesAt (s : ByteArray) : Nat → Nat → List Int
  | 0, _ => []
  | n + 1, i => if i < s.size then ((Utf8.decode s i).1 : Int) :: runesAt s n (i + (Utf8.decode s i).2) else []
def runesOf (l : List UInt8) : List Int := runesAt ⟨l.toArray⟩ l.length 0
theorem runesFrom_eq (s : ByteArray) : ∀ (n i : Nat) (acc : Array Value), Conv.runesFrom s n i acc = acc ++ ((runesAt s n i).map (Value.int .i32)).toArray
  | 0, i, acc => by simp [Conv.runesFrom, runesAt]
  | n + 1, i, acc => by
    simp only [Conv.runesFrom, runesAt]
    split
    · rw [runesFrom_eq s n]
      apply Array.ext'
      simp
    · simp
theorem runesAt_len (s : ByteArray) : ∀ n i, (runesAt s n i).length ≤ n
  | 0, _ => by simp [runesAt]
  | n + 1, i => by
    simp only [runesAt]
    split
    · have := runesAt_len s n (i + (Utf8.decode s i).2); simp; omega
    · simp
theorem RE_ints (w : World) (I : Nat → Prop) (k : IntKind) : ∀ ns : List Int, RE w I 1 (ns.map fun n => [PV.int k n]) (ns.map (Value.int k))
  | [] => by simp [RE]
  | n :: ns => by
    simp only [List.map_cons, RE]
    refine ⟨[.int k n], ns.map (Value.int k), rfl, rfl, ?_, RE_ints w I k ns⟩
    simp [RL, R1]
theorem YldW.convert_str_runes {a : AS} {s t : TypeId} (x : Operand) {i j je : TyI} {e : TypeId} {l : List UInt8} (hs : E.ty s = some i) (hk : i.k = .str) (ht : E.ty t = some j) (hj : j.k = .slice e) (he : E.ty e = some je) (hke : je.k = .int .i32) (hx : a.eval E x = .str l) (hl : l.length ≤ 70368744177664) :
    YldW E a (.convert s t x) (.list 1 ((runesOf l).map fun n => [PV.int .i32 n])) := by
  intro w I G act o ho g r
  have h1 := r.eval g x
  rw [hx] at h1
  have hds := ty_under hs; rw [hk] at hds
  have hdt := ty_under ht; rw [hj] at hdt
  have hde := ty_under he; rw [hke] at hde
  have hrf : Conv.runesFrom ⟨l.toArray⟩ (⟨l.toArray⟩ : ByteArray).size 0 #[] = ((runesOf l).map (Value.int .i32)).toArray := by
    rw [runesFrom_eq, size_mk]
    simp [runesOf]
  have hlen : (runesOf l).length ≤ l.length := runesAt_len _ _ _
  have hrun := run_runes_of_string (P := E.P) w s t e ⟨l.toArray⟩ hds hdt hde (by rw [hrf]; simp; omega)
  rw [hrf] at hrun
  simp only [List.size_toArray, List.length_map] at hrun
  let cap := grownCap w (runesOf l).length 0 e
  have hge : (runesOf l).length ≤ cap := grownCap_ge _ _ _ _
  have hcm : cap ≤ maxLen := grownCap_le_maxLen w _ _ e (by simp only [maxLen]; omega)
  let ob : Obj := .cells (((runesOf l).map (Value.int .i32)).toArray ++ Array.replicate (cap - (runesOf l).length) (.int .i32 0)) e
  obtain ⟨g', st⟩ := g.alloc_imm (w' := w.drew.alloc ob) (by simp) (fun k hk => heap_alloc_lt w.drew _ k hk) rfl rfl rfl
  refine ⟨_, _, _, by simp only [execOp, ho, Sem.run_bind, R_str h1, hrun]; rfl, g', st, ?_⟩
  have hat : (w.drew.alloc ob).heap[w.heap.size]? = some (.cells ((runesOf l).map (Value.int .i32) ++ List.replicate (cap - (runesOf l).length) (Value.int .i32 0)).toArray e (0, 0)) := by
    have := heap_alloc_at w.drew ob
    refine this.trans ?_
    simp only [ob]
    congr 2
    apply Array.ext'
    simp
  exact R1_row (t := e) (fz := (0, 0)) hat (.inr rfl) (RE_ints _ _ _ _) (by simp) hge hcm
end
end Go.Proofs.YtpgnfbdkhakbdaaGreatDoor.Lift

namespace Go.Proofs.YtpgnfbdkhakbdaaGreatDoor.Lift
open Go Go.RowKit

def Ret (v : PV) (h : Heap) : SEnd → Heap → Prop := fun e h' => e = .ret v ∧ h' = h
def XCalls (E : Env) (f : FuncId) (args : List PV) (h : Heap) (v : PV) : Prop :=
  ∀ w I G vs, Good E w I G h → R0s w I args vs → ∃ u, (callFunc f vs.toArray).run E.P w = .ok (.value u) w ∧ R w I v u
def ownOf : PV → TypeId × Nat × List (List PV)
  | .tuple [.int _ e, .list sz xs] => (e.toNat, sz, xs)
  | _ => (0, 0, [])
def OCalls (E : Env) (f : FuncId) (args : List PV) (h : Heap) (v : PV) : Prop := SCalls E f args h (fun e h' => ∃ u, e = .ret u ∧ Own h (ownOf v).1 (ownOf v).2.1 (ownOf v).2.2 u h')
def FCalls (E : Env) (f : FuncId) (args : List PV) (h : Heap) (v : PV) : Prop := SCalls E f args h (Ret v h) ∨ XCalls E f args h v
structure SpecE (E : Env) where
  f : FuncId
  s : List PV → Prop × PV
  ok : ∀ args h, (s args).1 → FCalls E f args h (s args).2
structure SpecH (E : Env) where
  f : FuncId
  s : List PV → Heap → Prop × PV × Heap
  ok : ∀ args h, (s args h).1 → SCalls E f args h (Ret (s args h).2.1 (s args h).2.2)
structure SpecO (E : Env) where
  f : FuncId
  s : List PV → Prop × PV
  ok : ∀ args h, (s args).1 → OCalls E f args h (s args).2
inductive SpecX (E : Env) where
  | e (x : SpecE E)
  | h (x : SpecH E)
  | o (x : SpecO E)
instance {E : Env} : Coe (SpecE E) (SpecX E) := ⟨SpecX.e⟩
instance {E : Env} : Coe (SpecH E) (SpecX E) := ⟨SpecX.h⟩
instance {E : Env} : Coe (SpecO E) (SpecX E) := ⟨SpecX.o⟩
abbrev Specs (E : Env) := List (SpecX E)
def PBad : Prop × PV := (False, .any)
def HBad (h : Heap) : Prop × PV × Heap := (False, .any, h)
def Specs.at {E : Env} (S : Specs E) (f : FuncId) (args : List PV) : Prop × PV :=
  match S with
  | [] => PBad
  | .e e :: l => if e.f = f then e.s args else Specs.at l f args
  | .h _ :: l => Specs.at l f args
  | .o _ :: l => Specs.at l f args
theorem Specs.ok {E : Env} : ∀ {S : Specs E} {f : FuncId} {args : List PV} {h : Heap}, (S.at f args).1 → FCalls E f args h (S.at f args).2
  | [], _, _, _, hc => hc.elim
  | .e e :: l, f, args, h, hc => by
    simp only [Specs.at] at hc ⊢
    split
    · rename_i he
      rw [if_pos he] at hc
      subst he
      exact e.ok args h hc
    · rename_i he
      rw [if_neg he] at hc
      exact Specs.ok hc
  | .h e :: l, f, args, h, hc => by
    simp only [Specs.at] at hc ⊢
    exact Specs.ok hc
  | .o e :: l, f, args, h, hc => by
    simp only [Specs.at] at hc ⊢
    exact Specs.ok hc
def Specs.atO {E : Env} (S : Specs E) (f : FuncId) (args : List PV) : Prop × PV :=
  match S with
  | [] => PBad
  | .e _ :: l => Specs.atO l f args
  | .h _ :: l => Specs.atO l f args
  | .o e :: l => if e.f = f then e.s args else Specs.atO l f args
theorem Specs.okO {E : Env} : ∀ {S : Specs E} {f : FuncId} {args : List PV} {h : Heap}, (S.atO f args).1 → OCalls E f args h (S.atO f args).2
  | [], _, _, _, hc => hc.elim
  | .e e :: l, f, args, h, hc => by
    simp only [Specs.atO] at hc ⊢
    exact Specs.okO hc
  | .h e :: l, f, args, h, hc => by
    simp only [Specs.atO] at hc ⊢
    exact Specs.okO hc
  | .o e :: l, f, args, h, hc => by
    simp only [Specs.atO] at hc ⊢
    split
    · rename_i he
      rw [if_pos he] at hc
      subst he
      exact e.ok args h hc
    · rename_i he
      rw [if_neg he] at hc
      exact Specs.okO hc
def Specs.hasO {E : Env} (S : Specs E) (f : FuncId) : Bool :=
  match S with
  | [] => false
  | .e _ :: l => Specs.hasO l f
  | .h _ :: l => Specs.hasO l f
  | .o e :: l => if e.f = f then true else Specs.hasO l f
def Specs.has {E : Env} (S : Specs E) (f : FuncId) : Bool :=
  match S with
  | [] => false
  | .e e :: l => if e.f = f then true else Specs.has l f
  | .h _ :: l => Specs.has l f
  | .o _ :: l => Specs.has l f
def Specs.atH {E : Env} (S : Specs E) (f : FuncId) (args : List PV) (h : Heap) : Prop × PV × Heap :=
  match S with
  | [] => HBad h
  | .e _ :: l => Specs.atH l f args h
  | .h e :: l => if e.f = f then e.s args h else Specs.atH l f args h
  | .o _ :: l => Specs.atH l f args h
def Specs.hasH {E : Env} (S : Specs E) (f : FuncId) : Bool :=
  match S with
  | [] => false
  | .e _ :: l => Specs.hasH l f
  | .h e :: l => if e.f = f then true else Specs.hasH l f
  | .o _ :: l => Specs.hasH l f
theorem Specs.okH {E : Env} : ∀ {S : Specs E} {f : FuncId} {args : List PV} {h : Heap}, (S.atH f args h).1 → SCalls E f args h (Ret (S.atH f args h).2.1 (S.atH f args h).2.2)
  | [], _, _, _, hc => hc.elim
  | .e e :: l, f, args, h, hc => by
    simp only [Specs.atH] at hc ⊢
    exact Specs.okH hc
  | .h e :: l, f, args, h, hc => by
    simp only [Specs.atH] at hc ⊢
    split
    · rename_i he
      rw [if_pos he] at hc
      subst he
      exact e.ok args h hc
    · rename_i he
      rw [if_neg he] at hc
      exact Specs.okH hc
  | .o e :: l, f, args, h, hc => by
    simp only [Specs.atH] at hc ⊢
    exact Specs.okH hc

def ppick (b : Bool) (x y : PV) : PV := match b with | true => x | false => y
theorem ppick_bool (b x y : Bool) : ppick b (.bool x) (.bool y) = .bool (if b then x else y) := by cases b <;> rfl
theorem ppick_true (x y : PV) : ppick true x y = x := rfl
theorem ppick_false (x y : PV) : ppick false x y = y := rfl

def pbinI (op : BinOp) (k k' : IntKind) (a b : Int) : Prop × PV :=
  match op with
  | .shl => (0 ≤ b, .int k (k.wrap (a * 2 ^ (min b.toNat k.bits))))
  | .shr => (0 ≤ b, .int k (a.fdiv (2 ^ (min b.toNat k.bits))))
  | .add => (k = k', .int k (k.wrap (a + b)))
  | .sub => (k = k', .int k (k.wrap (a - b)))
  | .mul => (k = k', .int k (k.wrap (a * b)))
  | .quo => (k = k' ∧ b ≠ 0, .int k (k.wrap (a.tdiv b)))
  | .rem => (k = k' ∧ b ≠ 0, .int k (a.tmod b))
  | .and => (k = k', .int k (bitsOp .and k a b))
  | .or => (k = k', .int k (bitsOp .or k a b))
  | .xor => (k = k', .int k (bitsOp .xor k a b))
  | .andNot => (k = k', .int k (bitsOp .andNot k a b))
  | .eql => (k = k', .bool (a == b))
  | .neq => (k = k', .bool (a != b))
  | .lss => (k = k', .bool (decide (a < b)))
  | .leq => (k = k', .bool (decide (a ≤ b)))
  | .gtr => (k = k', .bool (decide (b < a)))
  | .geq => (k = k', .bool (decide (b ≤ a)))
def pbinS (op : BinOp) (a b : List UInt8) : Prop × PV :=
  match op with
  | .add => (a.length + b.length ≤ 9223372036854775807, .str (a ++ b))
  | .eql => (True, .bool (a == b))
  | .neq => (True, .bool (!(a == b)))
  | .lss => (True, .bool (lessB a b))
  | .leq => (True, .bool (lessB a b || a == b))
  | .gtr => (True, .bool (!(lessB a b || a == b)))
  | .geq => (True, .bool (!lessB a b))
  | _ => PBad
def psame (E : Env) (t : TypeId) (x y : PV) : Prop :=
  match E.ty t with
  | some i => match i.k with
    | .ptr e => match E.ty e with
      | some _ => match x with
        | .val (.pointer (some a)) => match y with
          | .val (.pointer (some b)) => a = b
          | _ => False
        | _ => False
      | none => False
    | _ => False
  | none => False
def pfcmp (op : BinOp) (k : FloatKind) (a b : Nat) : Option Bool :=
  match op with
  | .eql => some (k.format.order a b == some .eq)
  | .neq => some (k.format.order a b != some .eq)
  | .lss => some (k.format.order a b == some .lt)
  | .leq => some (k.format.order a b == some .lt || k.format.order a b == some .eq)
  | .gtr => some (k.format.order a b == some .gt)
  | .geq => some (k.format.order a b == some .gt || k.format.order a b == some .eq)
  | _ => none
def pflt (op : BinOp) (x y : PV) : Option Bool :=
  match x with
  | .val (.float k a) => match y with
    | .val (.float k' b) => if k = k' then pfcmp op k a b else none
    | _ => none
  | _ => none
def pbinP (E : Env) (op : BinOp) (t : TypeId) (x y : PV) : Prop × PV :=
  match x with
  | .int k a => match y with
    | .int k' b => pbinI op k k' a b
    | _ => PBad
  | .str a => match y with
    | .str b => pbinS op a b
    | _ => PBad
  | x => match pflt op x y with
    | some b => (True, .bool b)
    | none => match op with
      | .eql => match peq E t x y with
        | some b => (True, .bool b)
        | none => (psame E t x y, .bool true)
      | .neq => match peq E t x y with
        | some b => (True, .bool (!b))
        | none => (psame E t x y, .bool false)
      | _ => PBad
section
variable {E : Env} {w w1 w' : World} {I I1 I' : Nat → Prop} {G G1 G' : Nat → Option Nat} {h : Heap}
theorem pbinI_ok {op : BinOp} {k k' : IntKind} {a b : Int} (h : (pbinI op k k' a b).1) : pbin op (.int k a) (.int k' b) = some (pbinI op k k' a b).2 := by
  cases op <;> simp [pbinI] at h <;> simp [pbin, pbinI, h]
theorem pbinS_ok {op : BinOp} {a b : List UInt8} (h : (pbinS op a b).1) : pbin op (.str a) (.str b) = some (pbinS op a b).2 := by
  cases op <;> simp [pbinS, PBad] at h <;> simp [pbin, pbinS, h]
theorem psame_ok {t : TypeId} {a : AS} {x y : Operand} (ty : TypeId) (hp : psame E t (a.eval E x) (a.eval E y)) : Yld E a (.binOp .eql t x y ty) (.bool true) ∧ Yld E a (.binOp .neq t x y ty) (.bool false) := by
  unfold psame at hp
  cases ht : E.ty t with
  | none => rw [ht] at hp; exact hp.elim
  | some i =>
    rw [ht] at hp
    dsimp only at hp
    cases hk : i.k <;> rw [hk] at hp <;> try exact hp.elim
    rename_i e
    dsimp only at hp
    cases he : E.ty e with
    | none => rw [he] at hp; exact hp.elim
    | some ie =>
      rw [he] at hp
      dsimp only at hp
      split at hp
      · rename_i ad hx
        split at hp
        · rename_i bd hy
          subst hp
          have hd := ty_under ht
          rw [hk] at hd
          obtain ⟨inf, z, hi, _⟩ := ty_info he
          have heq : ∀ (w : World), (Op.equal t (.pointer (some ad)) (.pointer (some ad))).run E.P w = .ok true w := fun w => by
            obtain ⟨d, eqn⟩ : ∃ d, ∀ u1 u2, Op.equal t u1 u2 = Op.equalIn (d + 1) t u1 u2 := ⟨9999, fun _ _ => rfl⟩
            rw [eqn]
            simp [Op.equalIn, run_underlying hd, sizeOf, typeInfo, hi, run_sameAddr_same]
          constructor
          · intro w I G act o ho g r
            have h1 := r.eval g x
            rw [hx] at h1
            have h1 := R_val h1
            have h2 := r.eval g y
            rw [hy] at h2
            have h2 := R_val h2
            refine ⟨.bool true, ?_, rfl⟩
            simp only [execOp, ho, h1, h2, Sem.run_bind, run_eqGuard (a := .pointer (some ad)) (h1 := fun cs => by simp) (h2 := by simp), Result.andThen_ok, binOp, heq, Sem.run_pure]
          · intro w I G act o ho g r
            have h1 := r.eval g x
            rw [hx] at h1
            have h1 := R_val h1
            have h2 := r.eval g y
            rw [hy] at h2
            have h2 := R_val h2
            refine ⟨.bool false, ?_, rfl⟩
            simp only [execOp, ho, h1, h2, Sem.run_bind, run_eqGuard (a := .pointer (some ad)) (h1 := fun cs => by simp) (h2 := by simp), Result.andThen_ok, binOp, heq, Sem.run_pure]
            rfl
        · exact hp.elim
      · exact hp.elim
theorem pflt_ok {op : BinOp} {t : TypeId} {a : AS} {x y : Operand} (ty : TypeId) {b : Bool} (hp : pflt op (a.eval E x) (a.eval E y) = some b) : Yld E a (.binOp op t x y ty) (.bool b) := by
  unfold pflt at hp
  split at hp
  · rename_i k n hx
    split at hp
    · rename_i k' m hy
      split at hp
      · rename_i hk
        subst hk
        intro w I G act o ho g r
        have h1 := r.eval g x
        rw [hx] at h1
        have h1 := R_val h1
        have h2 := r.eval g y
        rw [hy] at h2
        have h2 := R_val h2
        refine ⟨.bool b, ?_, rfl⟩
        simp only [execOp, ho, h1, h2, Sem.run_bind, run_eqGuard (a := .float k n) (h1 := fun cs => by simp) (h2 := by simp), Result.andThen_ok]
        unfold pfcmp at hp
        cases op <;> first
          | (cases hp; done)
          | (injection hp with hp; subst hp; simp [binOp, Op.floatCmp])
      · cases hp
    · cases hp
  · cases hp
theorem pbinP_ok {op : BinOp} {t : TypeId} {a : AS} {x y : Operand} (ty : TypeId) (hp : (pbinP E op t (a.eval E x) (a.eval E y)).1) : Yld E a (.binOp op t x y ty) (pbinP E op t (a.eval E x) (a.eval E y)).2 := by
  unfold pbinP at hp ⊢
  split
  · rename_i k n hx
    rw [hx] at hp
    dsimp only at hp ⊢
    split
    · rename_i k' n' hy
      rw [hy] at hp
      exact Yld.binOp op t x y ty (by rw [hx, hy]; exact pbinI_ok hp)
    · rename_i hne
      split at hp
      · rename_i k' n' hy; exact absurd hy (hne _ _)
      · exact hp.elim
  · rename_i l hx
    rw [hx] at hp
    dsimp only at hp ⊢
    split
    · rename_i l' hy
      rw [hy] at hp
      exact Yld.binOp op t x y ty (by rw [hx, hy]; exact pbinS_ok hp)
    · rename_i hne
      split at hp
      · rename_i l' hy; exact absurd hy (hne _)
      · exact hp.elim
  · rename_i h1 h2
    have e : ∀ {α : Type} (A : IntKind → Int → α) (B : List UInt8 → α) (C : PV → α), (match a.eval E x with | .int k n => A k n | .str l => B l | x => C x) = C (a.eval E x) := by
      intro α A B C
      split
      · rename_i hh; exact absurd hh (h1 _ _)
      · rename_i hh; exact absurd hh (h2 _)
      · rfl
    rw [e] at hp
    cases hf : pflt op (a.eval E x) (a.eval E y) with
    | some b => dsimp only; exact pflt_ok ty hf
    | none =>
    rw [hf] at hp
    cases op
    case eql =>
      dsimp only at hp ⊢
      cases hq : peq E t (a.eval E x) (a.eval E y) with
      | none => rw [hq] at hp; exact (psame_ok ty hp).1
      | some b => exact Yld.eql t x y ty hq
    case neq =>
      dsimp only at hp ⊢
      cases hq : peq E t (a.eval E x) (a.eval E y) with
      | none => rw [hq] at hp; exact (psame_ok ty hp).2
      | some b => exact Yld.neq t x y ty hq
    all_goals exact hp.elim

def unB : List (List PV) → Option (List UInt8)
  | [] => some []
  | [.int .u8 n] :: xs => match unB xs with
    | some l => if 0 ≤ n ∧ n < 256 then some (UInt8.ofNat n.toNat :: l) else none
    | none => none
  | _ => none
theorem unB_spec : ∀ {xs : List (List PV)} {l : List UInt8}, unB xs = some l → xs = l.map fun b => [PV.int .u8 b.toNat]
  | [], l, h => by simp only [unB, Option.some.injEq] at h; subst h; rfl
  | x :: xs, l, h => by
    unfold unB at h
    split at h
    · rename_i he; cases he
    · rename_i n xs' he
      injection he with he1 he2
      subst he1; subst he2
      split at h
      · rename_i l' hl
        split at h
        · rename_i hn
          injection h with h
          subst h
          rw [unB_spec hl]
          simp only [List.map_cons]
          congr 3
          have : (UInt8.ofNat n.toNat).toNat = n.toNat := by
            rw [UInt8.toNat_ofNat']; omega
          rw [this]; omega
        · cases h
      · cases h
    · cases h
def unR : List (List PV) → Option (List Int)
  | [] => some []
  | [.int .i32 n] :: xs => match unR xs with
    | some l => some (n :: l)
    | none => none
  | _ => none
theorem unR_spec : ∀ {xs : List (List PV)} {l : List Int}, unR xs = some l → xs = l.map fun n => [PV.int .i32 n]
  | [], l, h => by simp only [unR, Option.some.injEq] at h; subst h; rfl
  | x :: xs, l, h => by
    unfold unR at h
    split at h
    · rename_i he; cases he
    · rename_i n xs' he
      injection he with he1 he2
      subst he1; subst he2
      split at h
      · rename_i l' hl
        injection h with h
        subst h
        rw [unR_spec hl]
        rfl
      · cases h
    · cases h
def pconv (E : Env) (i j : TyI) (x : PV) : Prop × PV :=
  match x with
  | .int k' n => match j.k with
    | .int k => (True, .int k (k.wrap n))
    | .str => match i.k with
      | .int _ => (True, .str (encL n))
      | _ => PBad
    | _ => PBad
  | .list sz xs => match i.k, j.k with
    | .slice e, .str => match E.ty e with
      | some ie => match ie.k with
        | .int .u8 => match unB xs with
          | some l => (sz = 1, .str l)
          | none => PBad
        | .int .i32 => match unR xs with
          | some l => (sz = 1, .str (l.flatMap encL))
          | none => PBad
        | _ => PBad
      | none => PBad
    | _, _ => PBad
  | .str l => match i.k, j.k with
    | .str, .slice e => match E.ty e with
      | some ie => match ie.k with
        | .int .i32 => (l.length ≤ 70368744177664, .list 1 ((runesOf l).map fun n => [PV.int .i32 n]))
        | _ => PBad
      | none => PBad
    | _, _ => PBad
  | _ => PBad
theorem Yld.toW {a : AS} {op : Op} {v : PV} (h : Yld E a op v) : YldW E a op v := by
  intro w I G act o ho g r
  obtain ⟨u, hu, hv⟩ := h w I G act o ho g r
  exact ⟨u, w, I, hu, g, .refl .., hv⟩
theorem pconv_ok {a : AS} {s t : TypeId} {x : Operand} {i j : TyI} (hs : E.ty s = some i) (ht : E.ty t = some j) (hp : (pconv E i j (a.eval E x)).1) : YldW E a (.convert s t x) (pconv E i j (a.eval E x)).2 := by
  unfold pconv at hp ⊢
  cases hx : a.eval E x with
  | int k' n =>
    rw [hx] at hp
    dsimp only at hp ⊢
    cases hj : j.k <;> rw [hj] at hp <;> try dsimp only at hp ⊢ <;> try exact hp.elim
    case int k => exact (Yld.convert_int x hs ht hj hx).toW
    case str =>
      cases hi : i.k <;> rw [hi] at hp <;> try dsimp only at hp ⊢ <;> try exact hp.elim
      exact (Yld.convert_int_str x hs hi ht hj hx).toW
  | list sz xs =>
    rw [hx] at hp
    dsimp only at hp ⊢
    cases hi : i.k <;> rw [hi] at hp <;> try dsimp only at hp ⊢ <;> try exact hp.elim
    rename_i e
    cases hj : j.k <;> rw [hj] at hp <;> try dsimp only at hp ⊢ <;> try exact hp.elim
    cases he : E.ty e <;> rw [he] at hp <;> try dsimp only at hp ⊢ <;> try exact hp.elim
    rename_i ie
    cases hie : ie.k <;> rw [hie] at hp <;> try dsimp only at hp ⊢ <;> try exact hp.elim
    rename_i k
    cases k <;> try dsimp only at hp ⊢ <;> try exact hp.elim
    · cases hu : unR xs <;> rw [hu] at hp <;> try dsimp only at hp ⊢ <;> try exact hp.elim
      subst hp
      exact (Yld.convert_runes_str x hs hi he hie ht hj (by rw [hx, unR_spec hu])).toW
    · cases hu : unB xs <;> rw [hu] at hp <;> try dsimp only at hp ⊢ <;> try exact hp.elim
      subst hp
      exact (Yld.convert_bytes_str x hs hi he hie ht hj (by rw [hx, unB_spec hu])).toW
  | str l =>
    rw [hx] at hp
    dsimp only at hp ⊢
    cases hi : i.k <;> rw [hi] at hp <;> try dsimp only at hp ⊢ <;> try exact hp.elim
    cases hj : j.k <;> rw [hj] at hp <;> try dsimp only at hp ⊢ <;> try exact hp.elim
    rename_i e
    cases he : E.ty e <;> rw [he] at hp <;> try dsimp only at hp ⊢ <;> try exact hp.elim
    rename_i ie
    cases hie : ie.k <;> rw [hie] at hp <;> try dsimp only at hp ⊢ <;> try exact hp.elim
    rename_i k
    cases k <;> try dsimp only at hp ⊢ <;> try exact hp.elim
    exact YldW.convert_str_runes x hs hi ht hj he hie hx hp
  | _ => rw [hx] at hp; exact hp.elim
end
end Go.Proofs.YtpgnfbdkhakbdaaGreatDoor.Lift

namespace Go.Proofs.YtpgnfbdkhakbdaaGreatDoor.Lift
open Go Go.RowKit

def pfieldAddr (E : Env) (s : TypeId) (f : Nat) (x : PV) : Prop × PV :=
  match fieldOf E s f with
  | some (off, i) => match x with
    | .val (.pointer (some ⟨r, o, none⟩)) => (i.size ≠ 0, .val (.pointer (some ⟨r, o + off, none⟩)))
    | .elem cs => (i.size ≠ 0, .elem (cs.drop off))
    | _ => PBad
  | none => PBad
def pfield (E : Env) (s : TypeId) (f : Nat) (x : PV) : Prop × PV :=
  match fieldOf E s f with
  | some (off, i) => match x with
    | .agg cs => (okOne i = true ∧ off + i.size ≤ cs.length, valOf i.k.isAgg ((cs.drop off).take i.size))
    | _ => PBad
  | none => PBad
def pload (E : Env) (h : Heap) (t : TypeId) (x : PV) : Prop × PV :=
  match E.ty t with
  | some i => match x with
    | .elem cs => (okOne i = true ∧ i.size ≤ cs.length, valOf i.k.isAgg (cs.take i.size))
    | .val (.pointer (some ⟨r, o, none⟩)) => match h r with
      | some (.cells _ _ cs) => (okOne i = true ∧ o + i.size ≤ cs.length, valOf i.k.isAgg ((cs.drop o).take i.size))
      | _ => PBad
    | _ => PBad
  | none => PBad
def pindexAddr (E : Env) (t : TypeId) (x j : PV) : Prop × PV :=
  match E.ty t with
  | some i => match i.k with
    | .slice e => match E.ty e with
      | some ie => match x with
        | .list sz xs => match j with
          | .int _ n => (ie.size = sz ∧ sz ≠ 0 ∧ 0 ≤ n ∧ n.toNat < xs.length, .elem (xs.getD n.toNat []))
          | _ => PBad
        | .val (.slice (some ⟨r, o, none⟩) len _) => match j with
          | .int _ n => (0 ≤ n ∧ n < len, .val (.pointer (some ⟨r, o + n.toNat * ie.size, none⟩)))
          | _ => PBad
        | _ => PBad
      | none => PBad
    | .array len e => match E.ty e with
      | some ie => match x with
        | .val (.pointer (some ⟨r, o, none⟩)) => match j with
          | .int _ n => (0 ≤ n ∧ n < len, .val (.pointer (some ⟨r, o + n.toNat * ie.size, none⟩)))
          | _ => PBad
        | .elem cs => match j with
          | .int _ n => (0 ≤ n ∧ n < len, .elem (cs.drop (n.toNat * ie.size)))
          | _ => PBad
        | _ => PBad
      | none => PBad
    | _ => PBad
  | none => PBad
def pindex (E : Env) (t : TypeId) (x j : PV) : Prop × PV :=
  match E.ty t with
  | some i => match i.k with
    | .str => match x with
      | .str l => match j with
        | .int _ n => (0 ≤ n ∧ n.toNat < l.length, .int .u8 (l.getD n.toNat 0).toNat)
        | _ => PBad
      | _ => PBad
    | .array len e => match E.ty e with
      | some ie => match x with
        | .agg cs => match j with
          | .int _ n => (okOne ie = true ∧ 0 ≤ n ∧ n < len ∧ n.toNat * ie.size + ie.size ≤ cs.length, valOf ie.k.isAgg ((cs.drop (n.toNat * ie.size)).take ie.size))
          | _ => PBad
        | _ => PBad
      | none => PBad
    | _ => PBad
  | none => PBad
def pB (ρ : Operand → PV) (x : Option Operand) (d : Nat) : Option Int :=
  match x with
  | none => some d
  | some x => match ρ x with
    | .int _ n => some n
    | _ => none
def pslice (E : Env) (ρ : Operand → PV) (t : TypeId) (x : PV) (lo hi : Option Operand) : Prop × PV :=
  match E.ty t with
  | some i => match x with
    | .str l => match i.k with
      | .str => match pB ρ lo 0 with
        | some L => match pB ρ hi l.length with
          | some H => (0 ≤ L ∧ L ≤ H ∧ H ≤ l.length, .str ((l.take H.toNat).drop L.toNat))
          | none => PBad
        | none => PBad
      | _ => PBad
    | .list sz xs => match i.k with
      | .slice e => match E.ty e with
        | some ie => match pB ρ lo 0 with
          | some L => match pB ρ hi xs.length with
            | some H => (ie.size = sz ∧ 0 ≤ L ∧ L ≤ H ∧ H ≤ xs.length, .list sz ((xs.take H.toNat).drop L.toNat))
            | none => PBad
          | none => PBad
        | none => PBad
      | _ => PBad
    | .val (.slice (some ⟨r, o, none⟩) n cp) => match i.k with
      | .slice e => match E.ty e with
        | some ie => match pB ρ lo 0 with
          | some L => match pB ρ hi n with
            | some H => (0 ≤ L ∧ L ≤ H ∧ H ≤ cp, .val (.slice (some ⟨r, o + (if cp = L.toNat then 0 else L.toNat * ie.size), none⟩) (H.toNat - L.toNat) (cp - L.toNat)))
            | none => PBad
          | none => PBad
        | none => PBad
      | _ => PBad
    | .val (.slice none 0 0) => match i.k with
      | .slice e => match E.ty e with
        | some _ => match pB ρ lo 0 with
          | some L => match pB ρ hi 0 with
            | some H => (0 ≤ L ∧ L ≤ H ∧ H ≤ 0, .val (.slice none 0 0))
            | none => PBad
          | none => PBad
        | none => PBad
      | _ => PBad
    | .elem cs => match i.k with
      | .array len e => match E.ty e with
        | some ie => match lo with
          | none => match hi with
            | none => (ie.size = 1 ∧ cs.length = len ∧ len ≤ 65536, .list 1 (cs.map fun c => [c]))
            | some _ => PBad
          | some _ => PBad
        | none => PBad
      | _ => PBad
    | _ => PBad
  | none => PBad
theorem RE_cells {w : World} {I : Nat → Prop} : ∀ {cs : List PV} {us : List Value}, RL w I cs us → RE w I 1 (cs.map fun c => [c]) us
  | [], _, h => h
  | c :: cs, us, h => by
    obtain ⟨u, us', rfl, hu, hr⟩ := h
    exact ⟨[u], us', rfl, rfl, ⟨u, [], rfl, hu, rfl⟩, RE_cells hr⟩
theorem Yld.slice_elem {E : Env} {a : AS} (t : TypeId) (x : Operand) {i ie : TyI} {e : TypeId} {len : Nat} {cs : List PV} (ht : E.ty t = some i) (hk : i.k = .array len e) (he : E.ty e = some ie) (hsz : ie.size = 1) (hx : a.eval E x = .elem cs) (hl : cs.length = len) (hm : len ≤ 65536) :
    Yld E a (.slice t x none none none) (.list 1 (cs.map fun c => [c])) := by
  intro w I G act o ho g r
  have hd := ty_under ht
  rw [hk] at hd
  have hx' := r.eval g x
  rw [hx] at hx'
  obtain ⟨ad, us, e1, hrl, hat⟩ := hx'
  have hlen := hrl.length
  refine ⟨.slice (some ad) len len, ?_, ?_⟩
  · simp [execOp, ho, Instr.sliceAt, run_underlying hd, e1, Instr.sliceBounds, ty_sizeOf he, hsz, Addr.add, Instr.sureAddr]
  · show R1 w I _ _
    simp only [R1]
    refine ⟨some ad, len, us, by rw [List.length_map, hl], by rw [List.length_map, hl]; exact Nat.le_refl _, ?_, RE_cells hrl, hat⟩
    unfold maxLen
    omega
def chunk (sz : Nat) : Nat → List PV → List (List PV)
  | 0, _ => []
  | n + 1, cs => cs.take sz :: chunk sz n (cs.drop sz)
theorem chunk_spec (sz : Nat) : ∀ (n : Nat) (cs : List PV), cs.length = n * sz → cs = (chunk sz n cs).flatten ∧ (∀ x ∈ chunk sz n cs, x.length = sz) ∧ (chunk sz n cs).length = n
  | 0, cs, h => by
    have : cs = [] := List.length_eq_zero_iff.1 (by omega)
    subst this
    simp [chunk]
  | n + 1, cs, h => by
    have h1 : cs.length = n * sz + sz := by rw [h, Nat.add_mul, Nat.one_mul]
    obtain ⟨e1, e2, e3⟩ := chunk_spec sz n (cs.drop sz) (by rw [List.length_drop]; omega)
    refine ⟨?_, ?_, by simp only [chunk, List.length_cons, e3]⟩
    · simp only [chunk, List.flatten_cons, ← e1, List.take_append_drop]
    · intro x hx
      simp only [chunk, List.mem_cons] at hx
      rcases hx with rfl | hx
      · rw [List.length_take]; omega
      · exact e2 x hx
def pbuild (E : Env) (t : TypeId) (parts : List (Nat × PV)) : Prop × PV :=
  match E.ty t with
  | some i => match i.k with
    | .struct fs => match pfill (placeOf E fs) (i.zero.map ofVal) parts with
      | some cs => ((fs.all fun x => (E.ty x.2).isSome) = true ∧ okZero i = true ∧ known parts = true, .agg cs)
      | none => PBad
    | .array _ e => match E.ty e with
      | some ie => match pfill (fun j => some (j * ie.size, ie.size)) (i.zero.map ofVal) parts with
        | some cs => (okZero i = true ∧ known parts = true, .agg cs)
        | none => PBad
      | none => PBad
    | _ => PBad
  | none => PBad
def pbuildSlice (E : Env) (t : TypeId) (len : Nat) (parts : List (Nat × PV)) : Prop × PV :=
  match E.ty t with
  | some i => match i.k with
    | .slice e => match E.ty e with
      | some ie => if len = 0 then (parts = [], .cap0) else match pfill (fun i => some (i * ie.size, ie.size)) (List.replicate len (ie.zero.map ofVal)).flatten parts with
        | some cs => (len * ie.size ≤ 16777216 ∧ len ≤ 16777216 ∧ ie.zero.length = ie.size ∧ okZero ie = true ∧ known parts = true ∧ cs.length = len * ie.size, .list ie.size (chunk ie.size len cs))
        | none => PBad
      | none => PBad
    | _ => PBad
  | none => PBad
def prow (z : List PV) (n : Nat) : List (List PV) := List.replicate n z
theorem prow_len (z : List PV) (n : Nat) : (prow z n).length = n := List.length_replicate
def pmake (E : Env) (t : TypeId) (l c : PV) : Prop × PV :=
  match E.ty t with
  | some i => match i.k with
    | .slice e => match E.ty e with
      | some ie => match l with
        | .int _ n => match c with
          | .int _ m => (m = n ∧ 0 ≤ n ∧ (ie.bytes : Int) * n ≤ 281474976710656 ∧ n ≤ 70368744177664 ∧ ie.zero.length = ie.size ∧ okZero ie = true, .list ie.size (prow (ie.zero.map ofVal) n.toNat))
          | _ => PBad
        | _ => PBad
      | none => PBad
    | _ => PBad
  | none => PBad
theorem YldW.make {E : Env} {a : AS} (t : TypeId) (l c : Operand) {i ie : TyI} {e : TypeId} (ht : E.ty t = some i) (hk : i.k = .slice e) (he : E.ty e = some ie) (hzl : ie.zero.length = ie.size) (hz : okZero ie = true)
    {kl kc : IntKind} {n : Nat} (hl : a.eval E l = .int kl n) (hc : a.eval E c = .int kc n) (hb : ie.bytes * n ≤ 281474976710656) (hm : n ≤ 70368744177664) : YldW E a (.makeSlice t l c) (.list ie.size (prow (ie.zero.map ofVal) n)) := by
  intro w I G act o ho g r
  have hdt := ty_under ht
  rw [hk] at hdt
  obtain ⟨inf, z, hi, hisz, hiby, hiz, hzc, _⟩ := ty_info he
  have hl' := r.eval g l
  rw [hl] at hl'
  have hc' := r.eval g c
  rw [hc] at hc'
  have hr := run_make (P := E.P) w t e inf z hdt hi hiz kl kc n n (by omega) (by omega) (by rw [hiby]; omega) (by omega)
  simp only [Int.toNat_natCast] at hr
  have hcells : madeCells z.cells (n * inf.size) = (List.replicate n ie.zero).flatten.toArray := by
    have := zeroRow ie.zero n
    have e2 : z.cells = ie.zero.toArray := by apply Array.ext'; simp [hzc]
    unfold madeCells
    rw [e2, hisz, ← hzl]
    exact this
  rw [hcells] at hr
  obtain ⟨g', s⟩ := g.alloc_imm' (.cells (List.replicate n ie.zero).flatten.toArray e)
  refine ⟨.slice (some ⟨w.heap.size, 0, none⟩) n n, _, _, by simp only [execOp, ho, Sem.run_bind, R_int hl', R_int hc', hr, Result.andThen_ok, Sem.run_pure], g', s, ?_⟩
  have hRE : ∀ (w2 : World) (I2 : Nat → Prop), RE w2 I2 ie.size (prow (ie.zero.map ofVal) n) (List.replicate n ie.zero).flatten := by
    intro w2 I2
    unfold prow
    clear hr hcells hl' hc' hb hm hl hc g' s
    induction n with
    | zero => simp [RE]
    | succ n ih =>
      rw [List.replicate_succ, List.replicate_succ, List.flatten_cons]
      exact ⟨ie.zero, _, rfl, hzl, RL_zero w2 I2 hz, ih⟩
  exact R1_row (t := e) (rest := []) (fz := (0, 0)) (by rw [heap_alloc_at, List.append_nil]) (.inr rfl) (hRE _ _) (prow_len _ _) (Nat.le_refl _) (by simp only [maxLen]; omega)
def unV : PV → Option Value
  | .int k n => some (.int k n)
  | .bool b => some (.bool b)
  | .str l => some (.string ⟨l.toArray⟩)
  | .val (.pointer p) => some (.pointer p)
  | .val (.slice x y z) => some (.slice x y z)
  | .val (.map m) => some (.map m)
  | .val (.func x y z) => some (.func x y z)
  | .val .nilFunc => some .nilFunc
  | .val .nilIface => some .nilIface
  | _ => none
theorem unV_spec {x : PV} {v : Value} (h : unV x = some v) : x = ofVal v ∧ v.oneCell' = true ∧ ∀ t z, v ≠ .iface t z := by
  unfold unV at h
  split at h <;> first | (cases h; done) | (injection h with h; subst h; simp [ofVal, Value.oneCell'])
def unVs : List PV → Option (List Value)
  | [] => some []
  | x :: xs => match unV x with
    | some v => match unVs xs with
      | some vs => some (v :: vs)
      | none => none
    | none => none
theorem unVs_spec : ∀ {xs : List PV} {vs : List Value}, unVs xs = some vs → xs = vs.map ofVal ∧ vs.all Value.oneCell' = true ∧ ∀ v ∈ vs, ∀ t z, v ≠ .iface t z
  | [], vs, h => by simp only [unVs, Option.some.injEq] at h; subst h; simp
  | x :: xs, vs, h => by
    simp only [unVs] at h
    split at h
    · rename_i v hv
      split at h
      · rename_i vs' hvs
        injection h with h
        subst h
        obtain ⟨h1, h2, h3⟩ := unV_spec hv
        obtain ⟨k1, k2, k3⟩ := unVs_spec hvs
        refine ⟨by rw [h1, k1]; rfl, by simp [h2, k2], fun u hu => ?_⟩
        rcases List.mem_cons.1 hu with rfl | hu
        · exact h3
        · exact k3 u hu
      · cases h
    · cases h
def pmakeIface (E : Env) (t : TypeId) (x : PV) : Prop × PV :=
  match E.ty t with
  | some i => match x with
    | .agg cs => ((match i.k with | .iface => false | _ => true) = true, .iface t true cs)
    | .any => PBad
    | .tuple _ => PBad
    | x => ((match i.k with | .iface => false | _ => true) = true, .iface t false [x])
  | none => PBad
def pcall (E : Env) (S : Specs E) (ρ : Operand → PV) (c : Call) : Prop × PV :=
  match c.callee with
  | .builtin .len => match c.args.toList, c.argTypes.toList with
    | [x], [t] => match E.ty t with
      | some i => match plen (ρ x) with
        | some n => (c.args = #[x] ∧ c.argTypes = #[t] ∧ okLen i.k (ρ x) = true, .int .i64 n)
        | none => PBad
      | none => PBad
    | _, _ => PBad
  | .builtin .cap => match c.args.toList with
    | [x] => match c.argTypes.toList with
      | [t] => match E.ty t with
        | some i => match i.k with
          | .slice _ => match ρ x with
            | .val (.slice _ _ cp) => (c.args = #[x] ∧ c.argTypes = #[t], .int .i64 cp)
            | _ => PBad
          | _ => PBad
        | none => PBad
      | _ => PBad
    | _ => PBad
  | .builtin .min => match c.args.toList with
    | [x, y] => match ρ x with
      | .int k a => match ρ y with
        | .int k' b => (c.args = #[x, y] ∧ k = k', .int k (if b < a then b else a))
        | _ => PBad
      | _ => PBad
    | _ => PBad
  | .builtin .max => match c.args.toList with
    | [x, y] => match ρ x with
      | .int k a => match ρ y with
        | .int k' b => (c.args = #[x, y] ∧ k = k', .int k (if a < b then b else a))
        | _ => PBad
      | _ => PBad
    | _ => PBad
  | .builtin .unsafeSliceData => match c.args.toList with
    | [x] => match ρ x with
      | .val (.slice none _ _) => (c.args = #[x], .val (.pointer none))
      | .val (.slice (some ⟨r, o, none⟩) _ cp) => (c.args = #[x] ∧ cp ≠ 0, .val (.pointer (some ⟨r, o, none⟩)))
      | _ => PBad
    | _ => PBad
  | .value (.func f) => ((c.args.toList.all fun x => okArg (ρ x)) = true ∧ (S.at f (c.args.toList.map ρ)).1, (S.at f (c.args.toList.map ρ)).2)
  | _ => PBad
def pconvH (E : Env) (h : Heap) (i j : TyI) (x : PV) : Prop × PV :=
  match x with
  | .val (.pointer (some ⟨r0, o0, none⟩)) => match h r0 with
    | some (.cells e size _) => match i.k with
      | .ptr T => match j.k with
        | .uptr => match E.ty T with
          | some iT => (iT.size ≠ 0 ∧ o0 < size, .val (.pointer (some ⟨r0, o0, none⟩)))
          | none => PBad
        | _ => PBad
      | .uptr => match j.k with
        | .ptr u => match E.ty u with
          | some _ => (liesAt E.P E.P.depth e (size / E.P.cellsOf e) o0 u 1 = true, .val (.pointer (some ⟨r0, o0, none⟩)))
          | none => PBad
        | _ => PBad
      | _ => PBad
    | _ => PBad
  | x => pconv E i j x
section
variable {E : Env}
def mfind (k : List PV) : List (List PV × List PV × Nat) → Option (List PV)
  | [] => none
  | e :: es => if eqCells k e.1 = true then some e.2.1 else mfind k es
def mset (k v : List PV) (n : Nat) : List (List PV × List PV × Nat) → List (List PV × List PV × Nat)
  | [] => [(k, v, n)]
  | e :: es => if eqCells k e.1 = true then (k, v, e.2.2) :: es else e :: mset k v n es
def mdel (k : List PV) : List (List PV × List PV × Nat) → List (List PV × List PV × Nat)
  | [] => []
  | e :: es => if eqCells k e.1 = true then es else e :: mdel k es
def keyK (E : Env) (kt : TypeId) : Option (Bool × List CK) :=
  match plainCK E.P kt with
  | some c => some (false, [c])
  | none => match E.P.underlying kt with
    | some (.struct _) => match eqKinds E kt with
      | some ks => some (true, ks)
      | none => none
    | _ => none
theorem RM.length {w : World} {I : Nat → Prop} {ka va : Bool} : ∀ {es : List (List PV × List PV × Nat)} {ents : List MapEntry}, RM w I ka va es ents → ents.length = es.length
  | [], _, h => by
    have h : _ = [] := h
    rw [h]; rfl
  | _ :: _, _, ⟨_, _, _, e, _, _, h⟩ => by rw [e, List.length_cons, List.length_cons, RM.length h]
theorem fits_len : ∀ {ks : List CK} {xs : List PV}, fits ks xs = true → xs.length = ks.length
  | [], [], _ => rfl
  | [], _ :: _, h => by cases h
  | c :: ks, [], h => by cases c <;> cases h
  | .int _ :: ks, x :: xs, h => by cases x <;> simp [fits] at h; simp [fits_len h.2]
  | .bool :: ks, x :: xs, h => by cases x <;> simp [fits] at h; simp [fits_len h]
  | .str :: ks, x :: xs, h => by cases x <;> simp [fits] at h; simp [fits_len h]
def mfindI (k : List PV) : List (List PV × List PV × Nat) → Nat → Option (Nat × List PV)
  | [], _ => none
  | e :: es, i => if eqCells k e.1 = true then some (i, e.2.1) else mfindI k es (i + 1)
theorem mfindI_find (k : List PV) : ∀ (es : List (List PV × List PV × Nat)) (i : Nat), (mfindI k es i).map (·.2) = mfind k es
  | [], _ => rfl
  | e :: es, i => by
    simp only [mfindI, mfind]
    split
    · rfl
    · exact mfindI_find k es (i + 1)
def FRslt (w : World) (I : Nat → Prop) (va : Bool) (r : Option (Nat × List PV)) (u : Option (Nat × Value)) : Prop :=
  match r with
  | none => u = none
  | some (i, v) => ∃ vu, u = some (i, ofCells va vu) ∧ RL w I v vu
theorem findNow_g {w : World} {I : Nat → Prop} {kt : TypeId} {c : CK} (hc : plainCK E.P kt = some c) {k : List PV} {ku : List Value} (hk : fits [c] k = true) (hr : RL w I k ku) {va : Bool} {d : TypeDesc} (hd : E.P.underlying kt = some d) :
    ∀ (es : List (List PV × List PV × Nat)) (ents : List MapEntry) (i : Nat), (es.all fun e => fits [c] e.1) = true → RM w I false va es ents → ∃ u, Instr.findNow d (ofCells false ku) ents i = some u ∧ FRslt w I va (mfindI k es i) u
  | [], ents, i, _, h => by
    have h : ents = [] := h
    subst h
    exact ⟨none, rfl, rfl⟩
  | e :: es, ents, i, hf, ⟨ku2, vu, ents', e1, h1, h2, h3⟩ => by
    subst e1
    simp only [List.all_cons, Bool.and_eq_true] at hf
    obtain ⟨u, hu, hres⟩ := findNow_g hc hk hr hd es ents' (i + 1) hf.2 h3
    have hu2 := plainCK_under hc
    rw [hd] at hu2
    injection hu2 with hu2
    have key : Instr.sameNow d (ofCells false ku) (ofCells false ku2) = some (eqCells k e.1) := by
      have hl1 := fits_len hk
      have hl2 := fits_len hf.1
      match k, e.1, hl1, hl2, hk, hf.1, hr, h1 with
      | [x], [y], _, _, hk, hf1, hr, h1 =>
        obtain ⟨u1, _, rfl, r1, rfl⟩ := hr
        obtain ⟨u2, _, rfl, r2, rfl⟩ := h1
        subst hu2
        cases c with
        | int q =>
          cases x <;> simp [fits] at hk
          cases y <;> simp [fits] at hf1
          obtain rfl : u1 = _ := r1
          obtain rfl : u2 = _ := r2
          subst hk; subst hf1
          simp [ofCells, Instr.sameNow, eqCells]
        | bool =>
          cases x <;> simp [fits] at hk
          cases y <;> simp [fits] at hf1
          obtain rfl : u1 = _ := r1
          obtain rfl : u2 = _ := r2
          simp [ofCells, Instr.sameNow, eqCells]
        | str =>
          cases x <;> simp [fits] at hk
          cases y <;> simp [fits] at hf1
          obtain rfl : u1 = _ := r1
          obtain rfl : u2 = _ := r2
          simp only [ofCells, Instr.sameNow, eqCells, Bool.false_eq_true, if_false, List.getD_cons_zero, Bool.and_true]
          rw [beq_toListBytes, ByteArray.toList_eq, ByteArray.toList_eq]
    unfold Instr.findNow
    dsimp only
    rw [key]
    by_cases he : eqCells k e.1 = true
    · refine ⟨some (i, ofCells va vu), by rw [he], ?_⟩
      simp only [mfindI, he, if_true]
      exact ⟨vu, rfl, h2⟩
    · have he' : eqCells k e.1 = false := by simpa using he
      refine ⟨u, by rw [he']; exact hu, ?_⟩
      simp only [mfindI, he']
      exact hres
theorem findAsking_g {w : World} {I : Nat → Prop} {kt : TypeId} {ks : List CK} (hc : eqKinds E kt = some ks) {k : List PV} {ku : List Value} (hk : fits ks k = true) (hr : RL w I k ku) {va : Bool} :
    ∀ (es : List (List PV × List PV × Nat)) (ents : List MapEntry) (i : Nat), (es.all fun e => fits ks e.1) = true → RM w I true va es ents → ∃ u, (Instr.findAsking kt (ofCells true ku) ents i).run E.P w = .ok u w ∧ FRslt w I va (mfindI k es i) u
  | [], ents, i, _, h => by
    have h : ents = [] := h
    subst h
    exact ⟨none, rfl, rfl⟩
  | e :: es, ents, i, hf, ⟨ku2, vu, ents', e1, h1, h2, h3⟩ => by
    subst e1
    simp only [List.all_cons, Bool.and_eq_true] at hf
    obtain ⟨u, hu, hres⟩ := findAsking_g hc hk hr es ents' (i + 1) hf.2 h3
    have heq := (eq_main hc hk hf.1 hr h1).2
    have e2 : ∀ us : List Value, ofCells true us = .agg us.toArray := fun _ => rfl
    rw [e2] at hu
    by_cases he : eqCells k e.1 = true
    · rw [he] at heq
      refine ⟨some (i, ofCells va vu), ?_, ?_⟩
      · simp only [Instr.findAsking, e2, Sem.run_bind, heq, Result.andThen_ok, if_true, Sem.run_pure]
      · simp only [mfindI, he, if_true]
        exact ⟨vu, rfl, h2⟩
    · have he' : eqCells k e.1 = false := by simpa using he
      rw [he'] at heq
      refine ⟨u, ?_, ?_⟩
      · simp only [Instr.findAsking, e2, Sem.run_bind, heq, Result.andThen_ok, Bool.false_eq_true, if_false]
        exact hu
      · simp only [mfindI, he']
        exact hres
theorem findKey_g {w : World} {I : Nat → Prop} {kt : TypeId} {ka : Bool} {ks : List CK} (hc : keyK E kt = some (ka, ks)) {k : List PV} {ku : List Value} (hk : fits ks k = true) (hr : RL w I k ku) {va : Bool}
    (es : List (List PV × List PV × Nat)) (ents : List MapEntry) (hf : (es.all fun e => fits ks e.1) = true) (hm : RM w I ka va es ents) : ∃ u, (Instr.findKey kt (ofCells ka ku) ents).run E.P w = .ok u w ∧ FRslt w I va (mfindI k es 0) u := by
  unfold keyK at hc
  split at hc
  · rename_i c hp
    injection hc with hc
    injection hc with h1 h2
    subst h1; subst h2
    have hd := plainCK_under hp
    obtain ⟨u, hu, hres⟩ := findNow_g hp hk hr hd es ents 0 hf hm
    exact ⟨u, by simp [Instr.findKey, run_underlying hd, hu], hres⟩
  · split at hc
    · rename_i fs hu
      split at hc
      · rename_i ks' he
        injection hc with hc
        injection hc with h1 h2
        subst h1; subst h2
        rw [run_findKey_eq w (by rw [hu])]
        exact findAsking_g he hk hr es ents 0 hf hm
      · cases hc
    · cases hc
theorem checkKey_one {w : World} {I : Nat → Prop} {t : TypeId} {c : CK} (hc : plainCK E.P t = some c) {x : PV} {xs : List PV} {ks : List CK} {u : Value} (hf : fits (c :: ks) (x :: xs) = true) (hr : R1 w I x u) (em : Bool) (n : Nat) : (Instr.checkKey em (n + 1) t u).run E.P w = .ok () w := by
  have hd := plainCK_under hc
  rw [Instr.checkKey]
  cases c with
  | int q =>
    cases x <;> simp [fits] at hf
    obtain rfl : u = _ := hr
    simp [run_underlying hd]
  | bool =>
    cases x <;> simp [fits] at hf
    obtain rfl : u = _ := hr
    simp [run_underlying hd]
  | str =>
    cases x <;> simp [fits] at hf
    obtain rfl : u = _ := hr
    simp [run_underlying hd]
theorem checkKey_fields {w : World} {I : Nat → Prop} (em : Bool) (n : Nat) (us : List Value) : ∀ (fs : List Field) (i : Nat) (ks : List CK) (cs : List PV), fieldCKs E.P i fs = some ks → fits ks cs = true → RL w I cs (us.drop i) →
    (forIn fs PUnit.unit (fun (f : Field) (_ : PUnit) => do
      if f.name ≠ "_" then Instr.checkKey em (n + 1) f.type (← part f.type us.toArray f.offset)
      pure (ForInStep.yield PUnit.unit)) : Sem PUnit).run E.P w = .ok () w
  | [], i, ks, cs, hk, hc, _ => by simp
  | f :: fs, i, ks, cs, hk, hc, h1 => by
    unfold fieldCKs at hk
    split at hk
    · cases hk
    · rename_i hn
      split at hk
      · rename_i ho
        split at hk
        · rename_i c cs' hp hr
          injection hk with hk
          subst hk
          have hkey := plainCK_key hp
          cases cs with
          | nil => cases c <;> cases hc
          | cons x cs =>
            simp only [RL] at h1
            obtain ⟨u, us', eu, r1, l1⟩ := h1
            have gu : us.toArray[f.offset]? = some u := by rw [ho, List.getElem?_toArray, ← List.head?_drop, eu]; rfl
            have tu : us.drop (i + 1) = us' := by rw [← List.drop_drop, eu]; rfl
            have hfs : fits cs' cs = true := by
              cases c <;> cases x <;> simp [fits] at hc ⊢ <;> first | exact hc | exact hc.2
            have ih := checkKey_fields em n us fs (i + 1) cs' cs hr hfs (by rw [tu]; exact l1)
            have hck := checkKey_one (w := w) hp hc r1 em n
            simp only [List.forIn_cons, Sem.run_bind, hn, ne_eq, not_false_eq_true, if_true, run_part_plain w hkey gu, Result.andThen_ok, hck, Sem.run_pure]
            exact ih
        · cases hk
      · cases hk
theorem checkKey_g {w : World} {I : Nat → Prop} {kt : TypeId} {ka : Bool} {ks : List CK} (hc : keyK E kt = some (ka, ks)) {k : List PV} {ku : List Value} (hk : fits ks k = true) (hr : RL w I k ku) (em : Bool) : (Instr.checkKey em 10000 kt (ofCells ka ku)).run E.P w = .ok () w := by
  unfold keyK at hc
  split at hc
  · rename_i c hp
    injection hc with hc
    injection hc with h1 h2
    subst h1; subst h2
    match k, fits_len hk, hk, hr with
    | [x], _, hk, hr =>
      obtain ⟨u1, _, rfl, r1, rfl⟩ := hr
      exact checkKey_one (n := 9999) hp hk r1 em
  · split at hc
    · rename_i fs hu
      split at hc
      · rename_i ks' he
        injection hc with hc
        injection hc with h1 h2
        subst h1; subst h2
        unfold eqKinds at he
        rw [hu] at he
        split at he
        · cases he
        · dsimp only at he
          split at he
          · cases he
          · show (Instr.checkKey em (9999 + 1) kt (.agg ku.toArray)).run E.P w = .ok () w
            rw [Instr.checkKey]
            simp only [Sem.run_bind, run_underlying hu, Result.andThen_ok]
            rw [← Array.forIn_toList]
            have := checkKey_fields (E := E) (w := w) (I := I) em 9998 ku fs.toList 0 ks' k he hk hr
            rw [this]
            rfl
      · cases hc
    · cases hc
theorem R0_of_R1 {w : World} {I : Nat → Prop} {x : PV} {v : Value} (h : R1 w I x v) : R0 w I x v := by
  cases x <;> first | exact h | trivial | exact h.elim
theorem R0_valOf {w : World} {I : Nat → Prop} {a : Bool} {cs : List PV} {us : List Value} (h : RL w I cs us) (ha : a = false → cs.length = 1) : R0 w I (Lift.valOf a cs) (ofCells a us) := by
  unfold Lift.valOf ofCells
  cases a with
  | true => exact ⟨us, rfl, h⟩
  | false =>
    match cs, ha rfl with
    | [x], _ =>
      obtain ⟨u, us', rfl, h1, h2⟩ := h
      exact R0_of_R1 h1
def glook (E : Env) (kt : TypeId) (ie : TyI) (ka va : Bool) (es : List (List PV × List PV × Nat)) (k : PV) (c : Bool) : Prop × PV :=
  match keyK E kt with
  | some (ka', ks) => (ka' = ka ∧ (es.all fun e => fits ks e.1) = true ∧ fits ks k.cells = true ∧ va = ie.k.isAgg ∧ okZero ie = true ∧ okOne ie = true ∧ ie.zero.length = ie.size ∧ (es.all fun e => e.2.1.length == ie.size) = true,
      match c with
      | true => .tuple [Lift.valOf va ((mfind k.cells es).getD (ie.zero.map ofVal)), .bool (mfind k.cells es).isSome]
      | false => Lift.valOf va ((mfind k.cells es).getD (ie.zero.map ofVal)))
  | none => PBad
theorem mfind_mem {k : List PV} : ∀ {es : List (List PV × List PV × Nat)} {v : List PV}, mfind k es = some v → ∃ e ∈ es, e.2.1 = v
  | [], _, h => by cases h
  | e :: es, v, h => by
    simp only [mfind] at h
    split at h
    · injection h with h; exact ⟨e, List.mem_cons_self .., h⟩
    · obtain ⟨e', h1, h2⟩ := mfind_mem h
      exact ⟨e', List.mem_cons_of_mem _ h1, h2⟩
def isAggV : PV → Bool
  | .agg _ => true
  | _ => false
theorem fits_cells {w : World} {I : Nat → Prop} {k : PV} {v : Value} {ks : List CK} {ka : Bool} {kt : TypeId} (hc : keyK E kt = some (ka, ks)) (hf : fits ks k.cells = true) (hag : ka = isAggV k) (hr : R w I k v) : ∃ ku, v = ofCells ka ku ∧ RL w I k.cells ku := by
  cases k with
  | agg cs => obtain ⟨us, rfl, h⟩ := R_agg hr; exact ⟨us, by rw [hag]; rfl, h⟩
  | any => 
    have : fits ks [PV.any] = true := hf
    cases ks with
    | nil => cases this
    | cons c ks => cases c <;> cases this
  | tuple vs =>
    have : fits ks [PV.tuple vs] = true := hf
    cases ks with
    | nil => cases this
    | cons c ks => cases c <;> cases this
  | _ => exact ⟨[v], by rw [hag]; rfl, _, _, rfl, hr, rfl⟩
theorem pairEs_cons (k : Int × Int) (ks : List (Int × Int)) (n : Nat) : pairEs (k :: ks) n = ⟨pairV k, .bool true, n⟩ :: pairEs ks (n + 1) := rfl
theorem equal_pair {kt : TypeId} (hk : eqKinds E kt = some [.int .i64, .int .i64]) (x y : Int × Int) (w : World) : (Op.equal kt (pairV x) (pairV y)).run E.P w = .ok (decide (x = y)) w := by
  have h := (eq_main (w := w) (I := fun _ => True) hk (cs := [.int .i64 x.1, .int .i64 x.2]) (ds := [.int .i64 y.1, .int .i64 y.2]) (us := [.int .i64 x.1, .int .i64 x.2]) (vs := [.int .i64 y.1, .int .i64 y.2]) rfl rfl ⟨_, _, rfl, rfl, _, _, rfl, rfl, rfl⟩ ⟨_, _, rfl, rfl, _, _, rfl, rfl, rfl⟩).2
  have e : eqCells [.int .i64 x.1, .int .i64 x.2] [.int .i64 y.1, .int .i64 y.2] = decide (x = y) := by
    show ((x.1 == y.1) && ((x.2 == y.2) && true)) = _
    rw [Bool.and_true, Bool.eq_iff_iff, Bool.and_eq_true, beq_iff_eq, beq_iff_eq, decide_eq_true_eq, Prod.ext_iff]
  rw [e] at h
  exact h
theorem find_pair {kt : TypeId} (hk : eqKinds E kt = some [.int .i64, .int .i64]) (x : Int × Int) (w : World) : ∀ (ks : List (Int × Int)) (n i : Nat),
    (x ∉ ks ∧ (Instr.findAsking kt (pairV x) (pairEs ks n) i).run E.P w = .ok none w) ∨ (∃ j, ks[j]? = some x ∧ (Instr.findAsking kt (pairV x) (pairEs ks n) i).run E.P w = .ok (some (i + j, .bool true)) w)
  | [], n, i => .inl ⟨by simp, by simp [pairEs, Instr.findAsking]⟩
  | k :: ks, n, i => by
    rw [pairEs_cons]
    by_cases e : x = k
    · subst e
      right
      refine ⟨0, rfl, ?_⟩
      have h := equal_pair hk x x w
      simp only [Instr.findAsking, Sem.run_bind, h, Result.andThen_ok, decide_true, if_true, Sem.run_pure, Nat.add_zero]
    · have h := equal_pair hk x k w
      have hd : decide (x = k) = false := by simpa using e
      rw [hd] at h
      have e2 : (Instr.findAsking kt (pairV x) (⟨pairV k, .bool true, n⟩ :: pairEs ks (n + 1)) i).run E.P w = (Instr.findAsking kt (pairV x) (pairEs ks (n + 1)) (i + 1)).run E.P w := by
        simp only [Instr.findAsking, Sem.run_bind, h, Result.andThen_ok, Bool.false_eq_true, if_false]
      rw [e2]
      rcases find_pair hk x w ks (n + 1) (i + 1) with ⟨h1, h2⟩ | ⟨j, h1, h2⟩
      · exact .inl ⟨by simp only [List.mem_cons, not_or]; exact ⟨e, h1⟩, h2⟩
      · refine .inr ⟨j + 1, h1, ?_⟩
        rw [h2, show i + 1 + j = i + (j + 1) by omega]
structure PairKey (E : Env) (kt : TypeId) : Prop where
  eq : eqKinds E kt = some [.int .i64, .int .i64]
  wide : (match E.P.underlying kt with | some (.array _ _) | some (.struct _) => true | _ => false) = true
  chk : ∀ (em : Bool) (x : Int × Int) (w : World), (Instr.checkKey em 10000 kt (pairV x)).run E.P w = .ok () w
theorem findKey_pair {kt : TypeId} (hk : PairKey E kt) (x : Int × Int) (w : World) (ks : List (Int × Int)) :
    (x ∉ ks ∧ (Instr.findKey kt (pairV x) (pairEs ks 0)).run E.P w = .ok none w) ∨ (∃ j, ks[j]? = some x ∧ (Instr.findKey kt (pairV x) (pairEs ks 0)).run E.P w = .ok (some (j, .bool true)) w) := by
  rw [run_findKey_eq w hk.wide]
  rcases find_pair hk.eq x w ks 0 0 with h | ⟨j, h1, h2⟩
  · exact .inl h
  · exact .inr ⟨j, h1, by rw [h2, Nat.zero_add]⟩
theorem R_pair {w : World} {I : Nat → Prop} {x : Int × Int} {v : Value} (h : R w I (.agg [.int .i64 x.1, .int .i64 x.2]) v) : v = pairV x := by
  obtain ⟨us, rfl, u1, us1, rfl, h1, u2, us2, rfl, h2, h3⟩ := h
  have h1 : u1 = _ := h1
  have h2 : u2 = _ := h2
  have h3 : us2 = [] := h3
  subst h1; subst h2; subst h3
  rfl
def plookup (E : Env) (h : Heap) (t : TypeId) (x k : PV) (c : Bool) : Prop × PV :=
  match E.ty t with
  | some i => match i.k with
    | .map kt et => match E.ty et with
      | some ie => match x with
        | .val (.map (some r)) => match h r with
          | some (.pmap ks) => match c with
            | false => match k with
              | .agg [.int .i64 a, .int .i64 b] => (PairKey E kt ∧ ie.zero = [.bool false] ∧ ie.k.isAgg = false, .bool (decide ((a, b) ∈ ks)))
              | _ => PBad
            | true => PBad
          | some (.gmap ka va es _) => (isAggV k = ka ∧ (glook E kt ie ka va es k c).1, (glook E kt ie ka va es k c).2)
          | _ => PBad
        | _ => PBad
      | none => PBad
    | _ => PBad
  | none => PBad
theorem ofCells_isAgg {va : Bool} {z : Value} {us : List Value} (hz : z.cells.toList = us) (ha : va = true → ∃ cs, z = .agg cs) (hb : va = false → ∀ cs, z ≠ .agg cs) : z = ofCells va us := by
  cases va with
  | true =>
    obtain ⟨cs, rfl⟩ := ha rfl
    have h1 : cs.toList = us := hz
    show Value.agg cs = .agg us.toArray
    rw [← h1]
  | false =>
    have := hb rfl
    cases z <;> first | exact absurd rfl (this _) | (simp only [Value.cells] at hz; subst hz; rfl)
theorem glook_run {w : World} {I : Nat → Prop} {G : Nat → Option Nat} {h : Heap} {t : TypeId} {i ie : TyI} {kt et : TypeId} {ka va c : Bool} {es : List (List PV × List PV × Nat)} {n r0 : Nat} {k : PV} {v : Value} (g : Good E w I G h) (ht : E.ty t = some i) (hk : i.k = .map kt et) (he : E.ty et = some ie) (hr : h r0 = some (.gmap ka va es n)) (hag : isAggV k = ka) (hv : R w I k v)
    (hp : (glook E kt ie ka va es k c).1) : ∃ u, (Instr.lookup t (.map (some r0)) v c).run E.P w = .ok u w ∧ R w I (glook E kt ie ka va es k c).2 u := by
  unfold glook at hp ⊢
  split at hp
  · rename_i ka' ks hkk
    obtain ⟨rfl, h1, h2, rfl, h4, h5, h6, h7⟩ := hp
    obtain ⟨ku, rfl, hku⟩ := fits_cells hkk h2 hag.symm hv
    have hdt := ty_under ht
    rw [hk] at hdt
    obtain ⟨hlt, _, _, ents, hcell, hrm⟩ := g.own _ _ hr
    obtain ⟨u, hu, hres⟩ := findKey_g hkk h2 hku es ents h1 hrm
    have hck := checkKey_g (w := w) hkk h2 hku ents.isEmpty
    have hck' : (Instr.checkKey (ents.toArray.isEmpty) 10000 kt (ofCells ka' ku)).run E.P w = .ok () w := by
      have e : ents.toArray.isEmpty = ents.isEmpty := by simp
      rw [e]; exact hck
    obtain ⟨inf, z, hi, hisz, hiby, hiz, hzc, hza, hzb⟩ := ty_info he
    have hzv : (zeroValue et).run E.P w = .ok z w := by simp [zeroValue, run_typeInfo w hi, hiz]
    have hz := ofCells_isAgg hzc hza hzb
    have hone := okOne_spec h5
    rw [List.all_eq_true] at h7
    have hfi := mfindI_find k.cells es 0
    have hu' : (Instr.findKey kt (ofCells ka' ku) ents.toArray.toList).run E.P w = .ok u w := hu
    cases hm : mfindI k.cells es 0 with
    | none =>
      rw [hm] at hres hfi
      have hres : u = none := hres
      subst hres
      have hfi : mfind k.cells es = none := hfi.symm
      rw [hfi]
      have hRz : R0 w I (Lift.valOf ie.k.isAgg (ie.zero.map ofVal)) z := by
        rw [hz]
        exact R0_valOf (RL_zero w I h4) (fun ha => by rw [List.length_map, h6]; exact hone ha)
      cases c with
      | false =>
        refine ⟨z, ?_, R_of_R0 hRz⟩
        simp only [Instr.lookup, Sem.run_bind, run_underlying hdt, Result.andThen_ok, MapKept.run_getObj_map hcell, Sem.run_pure, hck', hu', hzv]
        rfl
      | true =>
        refine ⟨.tuple #[z, .bool false], ?_, [z, .bool false], rfl, z, _, rfl, hRz, _, _, rfl, rfl, rfl⟩
        simp only [Instr.lookup, Sem.run_bind, run_underlying hdt, Result.andThen_ok, MapKept.run_getObj_map hcell, Sem.run_pure, hck', hu', hzv]
        rfl
    | some x =>
      obtain ⟨j, vc⟩ := x
      rw [hm] at hres hfi
      obtain ⟨vu, rfl, hvu⟩ := hres
      have hfi : mfind k.cells es = some vc := hfi.symm
      rw [hfi]
      obtain ⟨e, he1, he2⟩ := mfind_mem hfi
      have hl := h7 e he1
      rw [he2, beq_iff_eq] at hl
      have hRv : R0 w I (Lift.valOf ie.k.isAgg vc) (ofCells ie.k.isAgg vu) := R0_valOf hvu (fun ha => by rw [hl]; exact hone ha)
      cases c with
      | false =>
        refine ⟨_, ?_, R_of_R0 hRv⟩
        simp only [Instr.lookup, Sem.run_bind, run_underlying hdt, Result.andThen_ok, MapKept.run_getObj_map hcell, Sem.run_pure, hck', hu']
        rfl
      | true =>
        refine ⟨.tuple #[ofCells ie.k.isAgg vu, .bool true], ?_, [_, .bool true], rfl, _, _, rfl, hRv, _, _, rfl, rfl, rfl⟩
        simp only [Instr.lookup, Sem.run_bind, run_underlying hdt, Result.andThen_ok, MapKept.run_getObj_map hcell, Sem.run_pure, hck', hu']
        rfl
  · exact hp.elim
theorem Yld.lookup {a : AS} (t : TypeId) (m key : Operand) (c : Bool) (hp : (plookup E a.h t (a.eval E m) (a.eval E key) c).1) : Yld E a (.lookup t m key c) (plookup E a.h t (a.eval E m) (a.eval E key) c).2 := by
  unfold plookup at hp ⊢
  cases ht : E.ty t with
  | none => rw [ht] at hp; exact hp.elim
  | some i =>
  rw [ht] at hp
  dsimp only at hp ⊢
  cases hk : i.k <;> rw [hk] at hp <;> try exact hp.elim
  rename_i kt et
  dsimp only at hp ⊢
  cases he : E.ty et with
  | none => rw [he] at hp; exact hp.elim
  | some ie =>
  rw [he] at hp
  dsimp only at hp ⊢
  split at hp
  · rename_i r0 hm
    (try rw [hm])
    try dsimp only
    split at hp
    · rename_i ks hr
      (try rw [hr])
      try dsimp only
      cases c with
      | true => exact hp.elim
      | false =>
      dsimp only at hp ⊢
      split at hp
      · rename_i x y hx
        (try rw [hx])
        obtain ⟨hpk, hz, hza⟩ := hp
        intro w I G act o hop g r
        have hdt := ty_under ht
        rw [hk] at hdt
        have h1 := r.eval g m
        rw [hm] at h1
        have h1 := R_val h1
        have h2 := r.eval g key
        rw [hx] at h2
        have h2 := R_pair (x := (x, y)) h2
        obtain ⟨hlt, _, _, hcell⟩ := g.own _ _ hr
        have hcell : w.heap[r0]? = some (.map (pairEs ks 0).toArray ks.length) := hcell
        obtain ⟨inf, z', hi, hisz, hiby, hiz, hzc', hza'⟩ := ty_info he
        have hzv : (zeroValue et).run E.P w = .ok (.bool false) w := by
          have hz2 : z' = .bool false := by
            have hn := hza'.2 hza
            rw [hz] at hzc'
            cases z' with
            | agg cs => exact absurd rfl (hn cs)
            | bool b => simpa [Value.cells] using hzc'
            | _ => simp [Value.cells] at hzc'
          simp [zeroValue, hi, hiz, typeInfo, hz2]
        have hrun : (Instr.lookup t (.map (some r0)) (pairV (x, y)) false).run E.P w = .ok (.bool (decide ((x, y) ∈ ks))) w := by
          rcases findKey_pair hpk (x, y) w ks with ⟨n1, n2⟩ | ⟨j, n1, n2⟩
          · simp [Instr.lookup, run_underlying hdt, MapKept.run_getObj_map hcell, hpk.chk, n2, hzv, n1]
          · have hmem : (x, y) ∈ ks := List.mem_of_getElem? n1
            simp [Instr.lookup, run_underlying hdt, MapKept.run_getObj_map hcell, hpk.chk, n2, hmem]
        exact ⟨_, by simp only [execOp, hop, h1, h2, Sem.run_bind, hrun, Result.andThen_ok, Sem.run_pure], rfl⟩
      · exact hp.elim
    · rename_i ka va es n hr
      (try rw [hr])
      try dsimp only
      obtain ⟨hag, hp⟩ := hp
      intro w I G act o hop g r
      have h1 := r.eval g m
      rw [hm] at h1
      have h1 := R_val h1
      obtain ⟨u, hu, hR⟩ := glook_run g ht hk he hr hag (r.eval g key) hp
      exact ⟨u, by simp only [execOp, hop, h1, Sem.run_bind, hu, Result.andThen_ok, Sem.run_pure], hR⟩
    · exact hp.elim
  · exact hp.elim
end
def notIface : TK → Bool
  | .iface => false
  | _ => true
def ptypeAssert (E : Env) (t : TypeId) (x : PV) (c : Bool) : Prop × PV :=
  match E.ty t with
  | some i => match x with
    | .iface t' ag cs => if t' = t then (notIface i.k = true ∧ (ag || cs.length == 1) = true, match c with
        | true => .tuple [Lift.valOf ag cs, .bool true]
        | false => Lift.valOf ag cs) else match c with
        | true => (notIface i.k = true ∧ okZero i = true ∧ okOne i = true ∧ i.zero.length = i.size, .tuple [Lift.valOf i.k.isAgg (i.zero.map ofVal), .bool false])
        | false => PBad
    | .val .nilIface => match c with
      | true => (notIface i.k = true ∧ okZero i = true ∧ okOne i = true ∧ i.zero.length = i.size, .tuple [Lift.valOf i.k.isAgg (i.zero.map ofVal), .bool false])
      | false => PBad
    | _ => PBad
  | none => PBad
theorem run_assert {E : Env} {w : World} {t xt : TypeId} {i : TyI} (ht : E.ty t = some i) (hn : notIface i.k = true) (c : Bool) (x : Value) :
    (Instr.typeAssert x xt t c).run E.P w = (match x with
      | .nilIface => (if c = true then (do pure (.tuple #[← zeroValue t, .bool false])) else runtimePanic (.typeAssertion (some xt) none t "") : Sem Value).run E.P w
      | .iface t' v => if t' = t then .ok (if c = true then .tuple #[v, .bool true] else v) w else (if c = true then (do pure (.tuple #[← zeroValue t, .bool false])) else runtimePanic (.typeAssertion (some xt) (some t') t "") : Sem Value).run E.P w
      | _ => (stuck "TypeAssert: interface value expected" : Sem Value).run E.P w) := by
  have hd := ty_under ht
  obtain ⟨d, hd', hni⟩ : ∃ d, E.P.underlying t = some d ∧ ∀ ms, d ≠ .interface ms := by
    cases hk : i.k <;> rw [hk] at hd hn <;> simp only [TK.desc] at hd
    case struct => obtain ⟨f, hd, _⟩ := hd; exact ⟨_, hd, by simp⟩
    case func => obtain ⟨_, _, _, hd⟩ := hd; exact ⟨_, hd, by simp⟩
    case iface => cases hn
    all_goals exact ⟨_, hd, by simp⟩
  simp only [Instr.typeAssert, Sem.run_bind, run_underlying hd', Result.andThen_ok]
  cases d <;> try exact absurd rfl (hni _)
  all_goals
    cases x <;> try rfl
    case iface t' v => by_cases e : t' = t <;> simp [e]
theorem Yld.typeAssert {E : Env} {a : AS} (x : Operand) (xt t : TypeId) (c : Bool) (hp : (ptypeAssert E t (a.eval E x) c).1) : Yld E a (.typeAssert x xt t c) (ptypeAssert E t (a.eval E x) c).2 := by
  unfold ptypeAssert at hp ⊢
  cases ht : E.ty t with
  | none => rw [ht] at hp; exact hp.elim
  | some i =>
  rw [ht] at hp
  dsimp only at hp ⊢
  have zer : ∀ (w : World) (I : Nat → Prop), okZero i = true → okOne i = true → i.zero.length = i.size → ∃ z, (zeroValue t).run E.P w = .ok z w ∧ R0 w I (Lift.valOf i.k.isAgg (i.zero.map ofVal)) z := fun w I h1 h2 h3 => by
    obtain ⟨inf, z, hi, hisz, hiby, hiz, hzc, hza, hzb⟩ := ty_info ht
    refine ⟨z, by simp [zeroValue, run_typeInfo w hi, hiz], ?_⟩
    rw [ofCells_isAgg hzc hza hzb]
    exact R0_valOf (RL_zero w I h1) (fun ha => by rw [List.length_map, h3]; exact okOne_spec h2 ha)
  split at hp
  · rename_i t' ag cs hx
    by_cases e : t' = t
    · rw [if_pos e] at hp
      simp only [e, if_true]
      intro w I G act o hop g r
      have h1 := r.eval g x
      rw [hx] at h1
      obtain ⟨us, e1, hr⟩ : ∃ us, act.eval x = .iface t' (ofCells ag us) ∧ RL w I cs us := h1
      have hR : R0 w I (Lift.valOf ag cs) (ofCells ag us) := R0_valOf hr (fun ha => by have h2 := hp.2; rw [ha] at h2; simpa using h2)
      have hrun := run_assert (w := w) (xt := xt) ht hp.1 c (act.eval x)
      rw [e1] at hrun
      simp only [e, if_true] at hrun
      cases c with
      | true => exact ⟨_, by simp only [execOp, hop, Sem.run_bind, e1, e, hrun, Result.andThen_ok, Sem.run_pure]; rfl, [_, _], rfl, _, _, rfl, hR, _, _, rfl, rfl, rfl⟩
      | false => exact ⟨_, by simp only [execOp, hop, Sem.run_bind, e1, e, hrun, Result.andThen_ok, Sem.run_pure]; rfl, R_of_R0 hR⟩
    · rw [if_neg e] at hp
      simp only [e, if_false]
      cases c with
      | false => exact hp.elim
      | true =>
        obtain ⟨p1, p2, p3, p4⟩ := hp
        intro w I G act o hop g r
        have h1 := r.eval g x
        rw [hx] at h1
        obtain ⟨us, e1, hr⟩ : ∃ us, act.eval x = .iface t' (ofCells ag us) ∧ RL w I cs us := h1
        obtain ⟨z, hz, hR⟩ := zer w I p2 p3 p4
        have hrun := run_assert (w := w) (xt := xt) ht p1 true (act.eval x)
        rw [e1] at hrun
        simp only [e, if_false, if_true, Sem.run_bind, hz, Result.andThen_ok, Sem.run_pure] at hrun
        exact ⟨_, by simp only [execOp, hop, Sem.run_bind, e1, hrun, Result.andThen_ok, Sem.run_pure], [_, _], rfl, _, _, rfl, hR, _, _, rfl, rfl, rfl⟩
  · rename_i hx
    cases c with
    | false => exact hp.elim
    | true =>
      obtain ⟨p1, p2, p3, p4⟩ := hp
      intro w I G act o hop g r
      have h1 := r.eval g x
      rw [hx] at h1
      have e1 : act.eval x = .nilIface := h1.1
      obtain ⟨z, hz, hR⟩ := zer w I p2 p3 p4
      have hrun := run_assert (w := w) (xt := xt) ht p1 true (act.eval x)
      rw [e1] at hrun
      simp only [if_true, Sem.run_bind, hz, Result.andThen_ok, Sem.run_pure] at hrun
      exact ⟨_, by simp only [execOp, hop, Sem.run_bind, e1, hrun, Result.andThen_ok, Sem.run_pure], [_, _], rfl, _, _, rfl, hR, _, _, rfl, rfl, rfl⟩
  · exact hp.elim
def isNilC : Operand → Bool
  | .const .nilIface => true
  | _ => false
def pnilI (E : Env) (op : BinOp) (t : TypeId) (x : PV) (d : Prop × PV) : Prop × PV :=
  match x with
  | .val .nilIface => match E.ty t with
    | some i => match i.k with
      | .iface => match op with
        | .eql => (True, .bool true)
        | .neq => (True, .bool false)
        | _ => d
      | _ => d
    | none => d
  | _ => d
theorem pnilI_ok {E : Env} {a : AS} {op : BinOp} {t ty : TypeId} {x y : Operand} {d : Prop × PV} (hy : isNilC y = true) (hd : d.1 → Yld E a (.binOp op t x y ty) d.2) (hp : (pnilI E op t (a.eval E x) d).1) : Yld E a (.binOp op t x y ty) (pnilI E op t (a.eval E x) d).2 := by
  unfold pnilI at hp ⊢
  split at hp
  · rename_i hx
    cases ht : E.ty t with
    | none => rw [ht] at hp; exact hd hp
    | some i =>
      rw [ht] at hp
      dsimp only at hp ⊢
      cases hk : i.k <;> rw [hk] at hp <;> try exact hd hp
      dsimp only at hp ⊢
      obtain rfl : y = .const .nilIface := by
        unfold isNilC at hy
        split at hy
        · rfl
        · cases hy
      have hdt := ty_under ht
      rw [hk] at hdt
      obtain ⟨ms, hdt⟩ := hdt
      have heq : ∀ (w : World), (Op.equal t .nilIface .nilIface).run E.P w = .ok true w := fun w => by
        obtain ⟨d, eqn⟩ : ∃ d, ∀ u1 u2, Op.equal t u1 u2 = Op.equalIn (d + 1) t u1 u2 := ⟨9999, fun _ _ => rfl⟩
        rw [eqn]
        simp [Op.equalIn, run_underlying hdt]
      cases op <;> try exact hd hp
      · intro w I G act o ho g r
        have h1 := r.eval g x
        rw [hx] at h1
        have h1 : act.eval x = .nilIface := h1.1
        refine ⟨.bool true, ?_, rfl⟩
        have h2 : act.eval (.const .nilIface) = .nilIface := rfl
        simp [execOp, ho, h1, h2, eqGuard, binOp, heq w]
      · intro w I G act o ho g r
        have h1 := r.eval g x
        rw [hx] at h1
        have h1 : act.eval x = .nilIface := h1.1
        refine ⟨.bool false, ?_, rfl⟩
        have h2 : act.eval (.const .nilIface) = .nilIface := rfl
        simp [execOp, ho, h1, h2, eqGuard, binOp, heq w]
  · exact hd hp
def px (E : Env) (S : Specs E) (ρ : Operand → PV) (h : Heap) : Op → Prop × PV
  | .move x => (True, ρ x)
  | .assign x => (True, ρ x)
  | .pick c x y => match ρ c with
    | .bool b => (True, ppick b (ρ x) (ρ y))
    | _ => PBad
  | .binOp op t x y _ => match isNilC y with
    | true => pnilI E op t (ρ x) (pbinP E op t (ρ x) (ρ y))
    | false => pbinP E op t (ρ x) (ρ y)
  | .unOp op _ x => match pun op (ρ x) with
    | some v => (True, v)
    | none => PBad
  | .nilCheck x => match ρ x with
    | .val (.pointer (some ad)) => (True, .val (.pointer (some ad)))
    | .elem cs => (True, .elem cs)
    | _ => PBad
  | .convert s t x => match E.ty s with
    | some i => match E.ty t with
      | some j => pconvH E h i j (ρ x)
      | none => PBad
    | none => PBad
  | .makeInterface t x => pmakeIface E t (ρ x)
  | .makeFunc fn first caps => match unVs (caps.toList.map ρ) with
    | some vs => (first = #[], .val (.func fn #[] vs.toArray))
    | none => PBad
  | .fieldAddr s x f => pfieldAddr E s f (ρ x)
  | .field s x f => pfield E s f (ρ x)
  | .load t x => pload E h t (ρ x)
  | .lookup t m k c => plookup E h t (ρ m) (ρ k) c
  | .typeAssert x _ t c => ptypeAssert E t (ρ x) c
  | .indexAddr t x j => pindexAddr E t (ρ x) (ρ j)
  | .index t x j => pindex E t (ρ x) (ρ j)
  | .slice t x lo hi m => match m with
    | none => pslice E ρ t (ρ x) lo hi
    | some _ => PBad
  | .extract x j => match ρ x with
    | .tuple vs => match vs[j]? with
      | some v => (True, v)
      | none => PBad
    | _ => PBad
  | .build t parts => pbuild E t (parts.toList.map fun x => (x.1, ρ x.2))
  | .buildSlice t n parts => pbuildSlice E t n (parts.toList.map fun x => (x.1, ρ x.2))
  | .makeSlice t l c => pmake E t (ρ l) (ρ c)
  | .call c => pcall E S ρ c
  | _ => PBad

section
variable {E : Env} {S : Specs E} {w w1 w' : World} {I I1 I' : Nat → Prop} {G G1 G' : Nat → Option Nat} {h : Heap}

def YldC (E : Env) (a : AS) (op : Op) (v : PV) : Prop :=
  ∀ w I G act (o : Oper), o.op = op → Good E w I G a.h → RS E w I a act → ∀ (K : Act → World → Prop) (Q : Exit → Act → World → Prop),
    (∀ u w' I' G', Good E w' I' G' a.h → Stp E.mono w I G a.h w' I' G' a.h → R w' I' v u → K (act.put o.dst u) w') → o.wp E.P act w K Q
theorem YldW.c {a : AS} {op : Op} {v : PV} (hy : YldW E a op v) : YldC E a op v := by
  intro w I G act o ho g r K Q k
  obtain ⟨u, w', I', hu, g', s, hr⟩ := hy w I G act o ho g r
  unfold Oper.wp
  rw [hu]
  exact k u w' I' G g' s hr
theorem Yld.c {a : AS} {op : Op} {v : PV} (hy : Yld E a op v) : YldC E a op v := YldW.c (Yld.toW hy)
theorem YldC.call {a : AS} (f : FuncId) (xs : Array Operand) (ts : Array TypeId) {v : PV} (hok : (xs.toList.all fun x => okArg (a.eval E x)) = true) (hc : SCalls E f (xs.toList.map (a.eval E)) a.h (Ret v a.h)) :
    YldC E a (.call { callee := .value (.func f), args := xs, argTypes := ts }) v := by
  intro w I G act o hop g r K Q k
  obtain ⟨⟨fn, c, hf, hb, hname⟩, hcalls⟩ := hc
  have hrs : R0s w I (xs.toList.map (a.eval E)) (xs.toList.map act.eval) := R0s_map g r _ hok
  have hcall := hcalls w I G _ g hrs
  unfold Oper.wp
  have hrun : (execOp act.eval o).run E.P w = .ok (.enter f (xs.toList.map act.eval).toArray) w := by
    simp only [execOp, hop, resolve, Act.eval, Deferred.ofValue, Sem.run_bind, Sem.run_pure, Result.andThen_ok, invoke]
    have hne : fn.name ≠ "runtime.NumGoroutine" := by simpa using hname
    have hcf : ∀ as, (callFunc f as).run E.P w = .ok (.enter f as) w := fun as => by simp [callFunc, hf, hne, hb]
    rw [hcf]
    congr 2
    apply Array.ext'
    simp
  rw [hrun, Oper.upon_enter]
  refine hcall.mono ?_
  intro e w' ⟨I', G', h', g', s, q⟩
  cases e with
  | returned u =>
    obtain ⟨p, hp, q1, q2⟩ := q
    injection q1 with q1
    subst q1; subst q2
    exact k u w' I' G' g' s hp
  | panicked c => obtain ⟨q1, _⟩ := q; cases q1
  | outgrown => exact q.elim
theorem YldC.xcall {a : AS} (f : FuncId) (xs : Array Operand) (ts : Array TypeId) {v : PV} (hok : (xs.toList.all fun x => okArg (a.eval E x)) = true) (hc : XCalls E f (xs.toList.map (a.eval E)) a.h v) :
    YldC E a (.call { callee := .value (.func f), args := xs, argTypes := ts }) v := by
  refine Yld.c fun w I G act o hop g r => ?_
  obtain ⟨u, hu, hr⟩ := hc w I G _ g (R0s_map g r _ hok)
  refine ⟨u, ?_, hr⟩
  simp only [execOp, hop, resolve, Act.eval, Deferred.ofValue, Sem.run_bind, Sem.run_pure, Result.andThen_ok, invoke]
  have e : (#[] ++ Array.map act.eval xs ++ #[] : Array Value) = (xs.toList.map act.eval).toArray := by
    apply Array.ext'
    simp
  first
    | (rw [e]; exact hu)
    | (simp only [e]; exact hu)
theorem YldC.fcall {a : AS} (f : FuncId) (xs : Array Operand) (ts : Array TypeId) {v : PV} (hok : (xs.toList.all fun x => okArg (a.eval E x)) = true) (hc : FCalls E f (xs.toList.map (a.eval E)) a.h v) :
    YldC E a (.call { callee := .value (.func f), args := xs, argTypes := ts }) v :=
  Or.elim hc (YldC.call f xs ts hok) (YldC.xcall f xs ts hok)
theorem getElem?_getD_lt {α : Type} {l : List α} {n : Nat} (d : α) (h : n < l.length) : l[n]? = some (l.getD n d) := by
  simp [List.getD_eq_getElem?_getD, h]

theorem Yld.min2 {a : AS} (x y : Operand) (ts : Array TypeId) {k : IntKind} {m n : Int} (hx : a.eval E x = .int k m) (hy : a.eval E y = .int k n) : Yld E a (.call { callee := .builtin .min, args := #[x, y], argTypes := ts }) (.int k (if n < m then n else m)) := by
  intro w I G act o ho g r
  have h1 := r.eval g x
  rw [hx] at h1
  have h1 := R_int h1
  have h2 := r.eval g y
  rw [hy] at h2
  have h2 := R_int h2
  refine ⟨.int k (if n < m then n else m), ?_, rfl⟩
  have e := run_min_int2 (P := E.P) (w := w) ts o.type k k m n
  simp [execOp, ho, resolve, invoke, builtin, h1, h2, e]
theorem Yld.max2 {a : AS} (x y : Operand) (ts : Array TypeId) {k : IntKind} {m n : Int} (hx : a.eval E x = .int k m) (hy : a.eval E y = .int k n) : Yld E a (.call { callee := .builtin .max, args := #[x, y], argTypes := ts }) (.int k (if m < n then n else m)) := by
  intro w I G act o ho g r
  have h1 := r.eval g x
  rw [hx] at h1
  have h1 := R_int h1
  have h2 := r.eval g y
  rw [hy] at h2
  have h2 := R_int h2
  refine ⟨.int k (if m < n then n else m), ?_, rfl⟩
  have e := run_max_int2 (P := E.P) (w := w) ts o.type k k m n
  simp [execOp, ho, resolve, invoke, builtin, h1, h2, e]
theorem Yld.unsafeSliceData_nil {a : AS} (x : Operand) (ts : Array TypeId) {n c : Nat} (hx : a.eval E x = .val (.slice none n c)) : Yld E a (.call { callee := .builtin .unsafeSliceData, args := #[x], argTypes := ts }) (.val (.pointer none)) := by
  intro w I G act o ho g r
  have h1 := r.eval g x
  rw [hx] at h1
  have h1 := R_val h1
  refine ⟨.pointer none, ?_, ⟨rfl, rfl⟩⟩
  have e := Lib.run_unsafeSliceData_nil (P := E.P) (w := w) ts o.type n c
  simp [execOp, ho, resolve, invoke, builtin, h1, e]
theorem Yld.unsafeSliceData_row {a : AS} (x : Operand) (ts : Array TypeId) {r0 o0 n c : Nat} (hc : c ≠ 0) (hx : a.eval E x = .val (.slice (some ⟨r0, o0, none⟩) n c)) : Yld E a (.call { callee := .builtin .unsafeSliceData, args := #[x], argTypes := ts }) (.val (.pointer (some ⟨r0, o0, none⟩))) := by
  intro w I G act o ho g r
  have h1 := r.eval g x
  rw [hx] at h1
  have h1 := R_val h1
  refine ⟨.pointer (some ⟨r0, o0, none⟩), ?_, ⟨rfl, rfl⟩⟩
  have e := Lib.run_unsafeSliceData_row (P := E.P) (w := w) ts o.type ⟨r0, o0, none⟩ n c hc
  simp [execOp, ho, resolve, invoke, builtin, h1, e]

theorem Yld.to_unsafe {a : AS} {s t : TypeId} (x : Operand) {is it iT : TyI} {T e : TypeId} {r0 o0 size : Nat} {cs : List PV} (hs : E.ty s = some is) (hk : is.k = .ptr T) (hT : E.ty T = some iT) (hz : iT.size ≠ 0) (ht : E.ty t = some it) (hkt : it.k = .uptr) (hx : a.eval E x = .val (.pointer (some ⟨r0, o0, none⟩))) (hr0 : a.h r0 = some (.cells e size cs)) (ho : o0 < size) :
    Yld E a (.convert s t x) (.val (.pointer (some ⟨r0, o0, none⟩))) := by
  intro w I G act o hop g r
  have hx' := r.eval g x
  rw [hx] at hx'
  have hx' := R_val hx'
  have hds := ty_under hs
  rw [hk] at hds
  have hdt := ty_under ht
  rw [hkt] at hdt
  obtain ⟨inf, z, hi, hisz, _⟩ := ty_info hT
  obtain ⟨h1, h2, h3, us, rs, hh, hr, hsz⟩ := g.own _ _ hr0
  have hrun := Lib.run_to_unsafe (P := E.P) w ⟨r0, o0, none⟩ hds hdt hi (by rw [hisz]; exact hz) (by simp [World.shape?, hh] : w.shape? r0 = some (e, (us ++ rs).length)) (by simp; omega)
  refine ⟨_, ?_, ⟨rfl, rfl⟩⟩
  simp only [execOp, hop, hx', Sem.run_bind]
  rw [hrun]
  rfl
theorem Yld.from_unsafe {a : AS} {s t : TypeId} (x : Operand) {is it iu : TyI} {u e : TypeId} {r0 o0 size : Nat} {cs : List PV} (hs : E.ty s = some is) (hk : is.k = .uptr) (ht : E.ty t = some it) (hkt : it.k = .ptr u) (hu : E.ty u = some iu) (hx : a.eval E x = .val (.pointer (some ⟨r0, o0, none⟩))) (hr0 : a.h r0 = some (.cells e size cs))
    (hl : liesAt E.P E.P.depth e (size / E.P.cellsOf e) o0 u 1 = true) : Yld E a (.convert s t x) (.val (.pointer (some ⟨r0, o0, none⟩))) := by
  intro w I G act o hop g r
  have hx' := r.eval g x
  rw [hx] at hx'
  have hx' := R_val hx'
  have hds := ty_under hs
  rw [hk] at hds
  have hdt := ty_under ht
  rw [hkt] at hdt
  obtain ⟨inf, z, hi, _⟩ := ty_info hu
  obtain ⟨h1, h2, h3, us, rs, hh, hr, hsz⟩ := g.own _ _ hr0
  have hrun := Lib.run_from_unsafe (P := E.P) w ⟨r0, o0, none⟩ hds hdt hi (by simp [World.shape?, hh] : w.shape? r0 = some (e, (us ++ rs).length)) (by rw [List.length_append, hsz]; exact hl)
  refine ⟨_, ?_, ⟨rfl, rfl⟩⟩
  simp only [execOp, hop, hx', Sem.run_bind]
  rw [hrun]
  rfl
theorem pconvH_ok {a : AS} {s t : TypeId} {x : Operand} {i j : TyI} (hs : E.ty s = some i) (ht : E.ty t = some j) (hp : (pconvH E a.h i j (a.eval E x)).1) : YldW E a (.convert s t x) (pconvH E a.h i j (a.eval E x)).2 := by
  unfold pconvH at hp ⊢
  split
  · rename_i r0 o0 hx
    rw [hx] at hp
    dsimp only at hp
    split at hp
    · rename_i e size cs hr
      cases hk : i.k <;> rw [hk] at hp <;> try exact hp.elim
      case ptr T =>
        dsimp only at hp ⊢
        cases hj : j.k <;> rw [hj] at hp <;> try exact hp.elim
        dsimp only at hp ⊢
        cases hT : E.ty T with
        | none => rw [hT] at hp; exact hp.elim
        | some iT =>
          rw [hT] at hp
          exact Yld.toW (Yld.to_unsafe x hs hk hT hp.1 ht hj hx hr hp.2)
      case uptr =>
        dsimp only at hp ⊢
        cases hj : j.k <;> rw [hj] at hp <;> try exact hp.elim
        rename_i u
        dsimp only at hp ⊢
        cases hu : E.ty u with
        | none => rw [hu] at hp; exact hp.elim
        | some iu =>
          rw [hu] at hp
          exact Yld.toW (Yld.from_unsafe x hs hk ht hj hu hx hr hp)
    · exact hp.elim
  · rename_i hne
    have e : ∀ {α : Type} (A : Nat → Nat → α) (C : PV → α), (match a.eval E x with | .val (.pointer (some ⟨r0, o0, none⟩)) => A r0 o0 | x => C x) = C (a.eval E x) := by
      intro α A C
      split
      · rename_i hh; exact absurd hh (hne _ _)
      · rfl
    rw [e] at hp
    exact pconv_ok hs ht hp

theorem px_ok {a : AS} {op : Op} (hp : (px E S (a.eval E) a.h op).1) : YldC E a op (px E S (a.eval E) a.h op).2 := by
  cases op <;> try exact hp.elim
  case move x => exact (Yld.move x).c
  case assign x => exact (Yld.assign x).c
  case pick c x y =>
    simp only [px] at hp ⊢
    split at hp
    · rename_i b hb
      (try rw [hb])
      have := (Yld.pick (E := E) c x y hb).c
      cases b <;> exact this
    · exact hp.elim
  case binOp op t x y ty =>
    simp only [px] at hp ⊢
    cases hy : isNilC y with
    | true => rw [hy] at hp; exact (pnilI_ok hy (fun h => pbinP_ok ty h) hp).c
    | false => rw [hy] at hp; exact (pbinP_ok ty hp).c
  case unOp op t x =>
    simp only [px] at hp ⊢
    split at hp
    · rename_i v hv
      (try rw [hv])
      exact (Yld.unOp op t x hv).c
    · exact hp.elim
  case nilCheck x =>
    simp only [px] at hp ⊢
    split at hp
    · rename_i ad hx; (try rw [hx]); exact (Yld.nilCheck x hx).c
    · rename_i cs hx; (try rw [hx]); exact (Yld.nilCheck_elem x hx).c
    · exact hp.elim
  case convert s t x =>
    simp only [px] at hp ⊢
    cases hs : E.ty s with
    | none => rw [hs] at hp; exact hp.elim
    | some i =>
      cases ht : E.ty t with
      | none => rw [hs, ht] at hp; exact hp.elim
      | some j =>
        rw [hs, ht] at hp
        exact YldW.c (pconvH_ok hs ht hp)
  case makeInterface t x =>
    simp only [px, pmakeIface] at hp ⊢
    cases ht : E.ty t with
    | none => rw [ht] at hp; exact hp.elim
    | some i =>
      rw [ht] at hp
      try dsimp only at hp ⊢
      cases hx : a.eval E x <;> rw [hx] at hp <;> try exact hp.elim
      case agg cs => exact (Yld.makeInterface x ht hp hx (.inl ⟨rfl, rfl⟩)).c
      all_goals exact (Yld.makeInterface x ht hp hx (.inr (by simp))).c
  case makeFunc fn first caps =>
    simp only [px] at hp ⊢
    cases hv : unVs (caps.toList.map (a.eval E)) with
    | none => rw [hv] at hp; exact hp.elim
    | some vs =>
      rw [hv] at hp
      obtain rfl : first = #[] := hp
      obtain ⟨h1, h2, h3⟩ := unVs_spec hv
      exact (Yld.makeFunc fn caps vs h1 h2 h3).c
  case fieldAddr s x f =>
    simp only [px, pfieldAddr] at hp ⊢
    cases hf : fieldOf E s f with
    | none => rw [hf] at hp; exact hp.elim
    | some oi =>
      obtain ⟨off, i⟩ := oi
      rw [hf] at hp
      try dsimp only at hp ⊢
      split at hp
      · rename_i r o hx; (try rw [hx]); exact (Yld.fieldAddr_val s x f hf hp hx).c
      · rename_i cs hx; (try rw [hx]); exact (Yld.fieldAddr_elem s x f hf hp hx).c
      · exact hp.elim
  case field s x f =>
    simp only [px, pfield] at hp ⊢
    cases hf : fieldOf E s f with
    | none => rw [hf] at hp; exact hp.elim
    | some oi =>
      obtain ⟨off, i⟩ := oi
      rw [hf] at hp
      try dsimp only at hp ⊢
      split at hp
      · rename_i cs hx; (try rw [hx]); exact (Yld.field s x f hf hp.1 hx hp.2).c
      · exact hp.elim
  case lookup t m k c => exact (Yld.lookup t m k c hp).c
  case typeAssert x xt t c => exact (Yld.typeAssert x xt t c hp).c
  case load t x =>
    simp only [px, pload] at hp ⊢
    cases ht : E.ty t with
    | none => rw [ht] at hp; exact hp.elim
    | some i =>
      rw [ht] at hp
      try dsimp only at hp ⊢
      split at hp
      · rename_i cs hx; (try rw [hx]); exact (Yld.load_elem t x ht hp.1 hx hp.2).c
      · rename_i r o hx
        (try rw [hx])
        try dsimp only at hp ⊢
        split at hp
        · rename_i t' size cs hr; (try rw [hr]); exact (Yld.load_val t x ht hp.1 hx hr hp.2).c
        · exact hp.elim
      · exact hp.elim
  case indexAddr t x j =>
    simp only [px, pindexAddr] at hp ⊢
    cases ht : E.ty t with
    | none => rw [ht] at hp; exact hp.elim
    | some i =>
      rw [ht] at hp
      try dsimp only at hp ⊢
      cases hk : i.k <;> rw [hk] at hp <;> try exact hp.elim
      case slice e =>
        try dsimp only at hp ⊢
        cases he : E.ty e with
        | none => rw [he] at hp; exact hp.elim
        | some ie =>
          rw [he] at hp
          try dsimp only at hp ⊢
          split at hp
          · rename_i sz xs hx
            (try rw [hx])
            try dsimp only at hp ⊢
            split at hp
            · rename_i k n hj
              (try rw [hj])
              obtain ⟨h1, h2, h3, h4⟩ := hp
              exact (Yld.indexAddr_list t x j ht hk he h1 h2 hx hj h3 (getElem?_getD_lt [] h4)).c
            · exact hp.elim
          · rename_i r o len cp hx
            (try rw [hx])
            try dsimp only at hp ⊢
            split at hp
            · rename_i k n hj
              (try rw [hj])
              exact (Yld.indexAddr_val t x j ht hk he hx hj hp.1 hp.2).c
            · exact hp.elim
          · exact hp.elim
      case array len e =>
        try dsimp only at hp ⊢
        cases he : E.ty e with
        | none => rw [he] at hp; exact hp.elim
        | some ie =>
          rw [he] at hp
          try dsimp only at hp ⊢
          split at hp
          · rename_i r o hx
            (try rw [hx])
            try dsimp only at hp ⊢
            split at hp
            · rename_i k n hj
              (try rw [hj])
              exact (Yld.indexAddr_arr t x j ht hk he hx hj hp.1 hp.2).c
            · exact hp.elim
          · rename_i cs hx
            (try rw [hx])
            try dsimp only at hp ⊢
            split at hp
            · rename_i k n hj
              (try rw [hj])
              exact (Yld.indexAddr_elem t x j ht hk he hx hj hp.1 hp.2).c
            · exact hp.elim
          · exact hp.elim
  case index t x j =>
    simp only [px, pindex] at hp ⊢
    cases ht : E.ty t with
    | none => rw [ht] at hp; exact hp.elim
    | some i =>
      rw [ht] at hp
      try dsimp only at hp ⊢
      cases hk : i.k <;> rw [hk] at hp <;> try exact hp.elim
      case str =>
        try dsimp only at hp ⊢
        split at hp
        · rename_i l hx
          (try rw [hx])
          try dsimp only at hp ⊢
          split at hp
          · rename_i k n hj
            (try rw [hj])
            exact (Yld.index_str t x j ht hk hx hj hp.1 (getElem?_getD_lt 0 hp.2)).c
          · exact hp.elim
        · exact hp.elim
      case array len e =>
        try dsimp only at hp ⊢
        cases he : E.ty e with
        | none => rw [he] at hp; exact hp.elim
        | some ie =>
          rw [he] at hp
          try dsimp only at hp ⊢
          split at hp
          · rename_i cs hx
            (try rw [hx])
            try dsimp only at hp ⊢
            split at hp
            · rename_i k n hj
              (try rw [hj])
              exact (Yld.index_agg t x j ht hk he hp.1 hx hj hp.2.1 hp.2.2.1 hp.2.2.2).c
            · exact hp.elim
          · exact hp.elim
  case slice t x lo hi m =>
    cases m with
    | some _ => exact hp.elim
    | none =>
      simp only [px, pslice] at hp ⊢
      have hB : ∀ x d, pB (a.eval E) x d = evB E a x d := fun _ _ => rfl
      cases ht : E.ty t with
      | none => rw [ht] at hp; exact hp.elim
      | some i =>
        rw [ht] at hp
        simp only [hB] at hp ⊢
        split at hp
        · rename_i l hx
          (try rw [hx])
          try dsimp only at hp ⊢
          cases hk : i.k <;> rw [hk] at hp <;> try exact hp.elim
          try dsimp only at hp ⊢
          cases hlo : evB E a lo 0 with
          | none => rw [hlo] at hp; exact hp.elim
          | some L =>
            cases hhi : evB E a hi l.length with
            | none => rw [hlo, hhi] at hp; exact hp.elim
            | some H =>
              rw [hlo, hhi] at hp
              exact (Yld.slice_str t x lo hi ht hk hx hlo hhi hp.1 hp.2.1 hp.2.2).c
        · rename_i sz xs hx
          (try rw [hx])
          try dsimp only at hp ⊢
          cases hk : i.k <;> rw [hk] at hp <;> try exact hp.elim
          rename_i e
          try dsimp only at hp ⊢
          cases he : E.ty e with
          | none => rw [he] at hp; exact hp.elim
          | some ie =>
            cases hlo : evB E a lo 0 with
            | none => rw [he, hlo] at hp; exact hp.elim
            | some L =>
              cases hhi : evB E a hi xs.length with
              | none => rw [he, hlo, hhi] at hp; exact hp.elim
              | some H =>
                rw [he, hlo, hhi] at hp
                exact (Yld.slice_list t x lo hi ht hk he hp.1 hx hlo hhi hp.2.1 hp.2.2.1 hp.2.2.2).c
        · rename_i r o n cp hx
          (try rw [hx])
          try dsimp only at hp ⊢
          cases hk : i.k <;> rw [hk] at hp <;> try exact hp.elim
          rename_i e
          try dsimp only at hp ⊢
          cases he : E.ty e with
          | none => rw [he] at hp; exact hp.elim
          | some ie =>
            cases hlo : evB E a lo 0 with
            | none => rw [he, hlo] at hp; exact hp.elim
            | some L =>
              cases hhi : evB E a hi n with
              | none => rw [he, hlo, hhi] at hp; exact hp.elim
              | some H =>
                rw [he, hlo, hhi] at hp
                exact (Yld.slice_val t x lo hi ht hk he hx hlo hhi hp.1 hp.2.1 hp.2.2).c
        · rename_i hx
          (try rw [hx])
          try dsimp only at hp ⊢
          cases hk : i.k <;> rw [hk] at hp <;> try exact hp.elim
          rename_i e
          try dsimp only at hp ⊢
          cases he : E.ty e with
          | none => rw [he] at hp; exact hp.elim
          | some ie =>
            cases hlo : evB E a lo 0 with
            | none => rw [he, hlo] at hp; exact hp.elim
            | some L =>
              cases hhi : evB E a hi 0 with
              | none => rw [he, hlo, hhi] at hp; exact hp.elim
              | some H =>
                rw [he, hlo, hhi] at hp
                exact (Yld.slice_nil t x lo hi ht hk he hx hlo hhi hp.1 hp.2.1 hp.2.2).c
        · rename_i cs hx
          (try rw [hx])
          try dsimp only at hp ⊢
          cases hk : i.k <;> rw [hk] at hp <;> try exact hp.elim
          rename_i len e
          try dsimp only at hp ⊢
          cases he : E.ty e with
          | none => rw [he] at hp; exact hp.elim
          | some ie =>
            rw [he] at hp
            cases lo with
            | some _ => exact hp.elim
            | none =>
              cases hi with
              | some _ => exact hp.elim
              | none => exact (Yld.slice_elem t x ht hk he hp.1 hx hp.2.1 hp.2.2).c
        · exact hp.elim
  case extract x j =>
    simp only [px] at hp ⊢
    split at hp
    · rename_i vs hx
      (try rw [hx])
      try dsimp only at hp ⊢
      cases hj : vs[j]? with
      | none => rw [hj] at hp; exact hp.elim
      | some v => exact (Yld.extract x j hx hj).c
    · exact hp.elim
  case build t parts =>
    simp only [px, pbuild] at hp ⊢
    cases ht : E.ty t with
    | none => rw [ht] at hp; exact hp.elim
    | some i =>
      rw [ht] at hp
      try dsimp only at hp ⊢
      cases hk : i.k <;> rw [hk] at hp <;> try exact hp.elim
      case struct fs =>
        try dsimp only at hp ⊢
        split at hp
        · rename_i cs hf
          (try rw [hf])
          exact (Yld.build t parts ht hk hp.1 hp.2.1 hp.2.2 hf).c
        · exact hp.elim
      case array n e =>
        try dsimp only at hp ⊢
        cases he : E.ty e with
        | none => rw [he] at hp; exact hp.elim
        | some ie =>
          rw [he] at hp
          try dsimp only at hp ⊢
          split at hp
          · rename_i cs hf
            (try rw [hf])
            exact (Yld.buildArr t parts ht hk he hp.1 hp.2 hf).c
          · exact hp.elim
  case buildSlice t n parts =>
    simp only [px, pbuildSlice] at hp ⊢
    cases ht : E.ty t with
    | none => rw [ht] at hp; exact hp.elim
    | some i =>
      rw [ht] at hp
      try dsimp only at hp ⊢
      cases hk : i.k <;> rw [hk] at hp <;> try exact hp.elim
      rename_i e
      try dsimp only at hp ⊢
      cases he : E.ty e with
      | none => rw [he] at hp; exact hp.elim
      | some ie =>
        rw [he] at hp
        try dsimp only at hp ⊢
        by_cases hn0 : n = 0
        · rw [if_pos hn0] at hp ⊢
          subst hn0
          have hps : parts.toList = [] := by simpa using hp
          have : parts = #[] := by apply Array.ext'; simpa using hps
          subst this
          exact YldW.c (YldW.buildSlice0 t ht hk he)
        rw [if_neg hn0] at hp ⊢
        split at hp
        · rename_i cs hf
          (try rw [hf])
          obtain ⟨h1, h2, h3, h4, h5, h6⟩ := hp
          obtain ⟨c1, c2, c3⟩ := chunk_spec ie.size n cs h6
          exact YldW.c (YldW.buildSlice t n parts ht hk he h1 h2 h3 h4 h5 hf c1 c2 c3)
        · exact hp.elim
  case makeSlice t l c =>
    simp only [px, pmake] at hp ⊢
    cases ht : E.ty t with
    | none => rw [ht] at hp; exact hp.elim
    | some i =>
      rw [ht] at hp
      try dsimp only at hp ⊢
      cases hk : i.k <;> rw [hk] at hp <;> try exact hp.elim
      rename_i e
      try dsimp only at hp ⊢
      cases he : E.ty e with
      | none => rw [he] at hp; exact hp.elim
      | some ie =>
        rw [he] at hp
        try dsimp only at hp ⊢
        cases hl : a.eval E l <;> rw [hl] at hp <;> try exact hp.elim
        rename_i kl n
        cases hc : a.eval E c <;> rw [hc] at hp <;> try exact hp.elim
        rename_i kc m
        obtain ⟨rfl, h1, h2, h3, h4, h5⟩ := hp
        obtain ⟨n, rfl⟩ : ∃ k : Nat, m = k := ⟨m.toNat, by omega⟩
        try dsimp only
        rw [Int.toNat_natCast]
        exact YldW.c (YldW.make t l c ht hk he h4 h5 hl hc (by have h6 : ((ie.bytes * n : Nat) : Int) ≤ 281474976710656 := by { rw [Int.natCast_mul]; exact h2 }; omega) (by omega))
  case call c =>
    obtain ⟨callee, args, argTypes⟩ := c
    simp only [px, pcall] at hp ⊢
    split at hp
    · try dsimp only at hp ⊢
      split at hp
      · rename_i x t hx ht
        cases hty : E.ty t with
        | none => rw [hty] at hp; exact hp.elim
        | some i =>
          cases hn : plen (a.eval E x) with
          | none => rw [hty, hn] at hp; exact hp.elim
          | some n =>
            rw [hty, hn] at hp
            obtain ⟨h1, h2, h3⟩ := hp
            rw [h1, h2]
            exact (Yld.len x t hty h3 hn).c
      · exact hp.elim
    · try dsimp only at hp ⊢
      split at hp
      · rename_i x hx
        split at hp
        · rename_i t ht
          cases hty : E.ty t with
          | none => rw [hty] at hp; exact hp.elim
          | some i =>
            rw [hty] at hp
            try dsimp only at hp ⊢
            cases hk : i.k <;> rw [hk] at hp <;> try exact hp.elim
            try dsimp only at hp ⊢
            split at hp
            · rename_i A n cp hv
              rw [hp.1, hp.2]
              exact (Yld.cap_val x t hty hk hv).c
            · exact hp.elim
        · exact hp.elim
      · exact hp.elim
    · try dsimp only at hp ⊢
      split at hp
      · rename_i x y hxy
        split at hp
        · rename_i k m hx
          split at hp
          · rename_i k' n hy
            obtain ⟨h1, rfl⟩ := hp
            rw [h1]
            exact (Yld.min2 x y argTypes hx hy).c
          · exact hp.elim
        · exact hp.elim
      · exact hp.elim
    · try dsimp only at hp ⊢
      split at hp
      · rename_i x y hxy
        split at hp
        · rename_i k m hx
          split at hp
          · rename_i k' n hy
            obtain ⟨h1, rfl⟩ := hp
            rw [h1]
            exact (Yld.max2 x y argTypes hx hy).c
          · exact hp.elim
        · exact hp.elim
      · exact hp.elim
    · try dsimp only at hp ⊢
      split at hp
      · rename_i x hx
        split at hp
        · rename_i n cp hv
          rw [show args = #[x] from hp]
          exact (Yld.unsafeSliceData_nil x argTypes hv).c
        · rename_i r o n cp hv
          rw [hp.1]
          exact (Yld.unsafeSliceData_row x argTypes hp.2 hv).c
        · exact hp.elim
      · exact hp.elim
    · exact YldC.fcall _ _ _ hp.1 (Specs.ok hp.2)
    · exact hp.elim
end
end Go.Proofs.YtpgnfbdkhakbdaaGreatDoor.Lift

namespace Go.Proofs.YtpgnfbdkhakbdaaGreatDoor.Lift
open Go Go.RowKit

section
variable {E : Env} {S : Specs E} {w w1 w' : World} {I I1 I' : Nat → Prop} {G G1 G' : Nat → Option Nat} {h : Heap}

theorem RS.same {a b : AS} {act : Act} (r : RS E w I a act) (hn : b.n = a.n) (hg : ∀ t, b.get t = a.get t) : RS E w I b act := r.weaken hn fun t => .inl (hg t)
theorem get_put_self {a : AS} {d : Nat} {v : PV} (hd : a.get d = v) (t : Nat) : (a.put (some d) v).get t = a.get t := by
  rw [AS.get_put]
  split
  · rename_i e; subst e; exact hd.symm
  · rfl
theorem SWO.put_same {ops : Array Oper} {rest : List Oper} {Q : Exit → AS → Prop} {a : AS} (d : Nat) {v : PV} (hd : a.get d = v) (k : SWO E ops rest Q (a.put (some d) v)) : SWO E ops rest Q a :=
  fun w I G act g r => k w I G act g (r.same rfl (get_put_self hd))
theorem SW.put_same {c : Code} {Q : Exit → AS → Prop} {a : AS} (d : Nat) {v : PV} (hd : a.get d = v) (k : SW E c Q (a.put (some d) v)) : SW E c Q a :=
  fun w I G act g r => k w I G act g (r.same rfl (get_put_self hd))
theorem SWO.split {ops : Array Oper} {rest : List Oper} {Q : Exit → AS → Prop} {a : AS} (d : Nat) {c : Bool} (hd : a.get d = .bool c) (h1 : c = true → SWO E ops rest Q (a.put (some d) (.bool true))) (h2 : c = false → SWO E ops rest Q (a.put (some d) (.bool false))) : SWO E ops rest Q a := by
  cases c
  · exact SWO.put_same d hd (h2 rfl)
  · exact SWO.put_same d hd (h1 rfl)
theorem SW.split {x : Code} {Q : Exit → AS → Prop} {a : AS} (d : Nat) {c : Bool} (hd : a.get d = .bool c) (h1 : c = true → SW E x Q (a.put (some d) (.bool true))) (h2 : c = false → SW E x Q (a.put (some d) (.bool false))) : SW E x Q a := by
  cases c
  · exact SW.put_same d hd (h2 rfl)
  · exact SW.put_same d hd (h1 rfl)

theorem SWO.yldc {ops : Array Oper} {o : Oper} {rest : List Oper} {Q : Exit → AS → Prop} {a : AS} {v : PV} (hy : YldC E a o.op v) (hg : wantedA ops a o = some true) (hd : okDst a.n o.dst = true)
    (k : SWO E ops rest Q (a.put o.dst v)) : SWO E ops (o :: rest) Q a := by
  intro w I G act g r
  unfold wpList
  rw [if_pos (r.wanted hg)]
  refine .inl (hy w I G act o rfl g r _ _ ?_)
  intro u w' I' G' g' s hv
  have r1 := (r.keeps (s.keeps g)).put hd hv
  exact SWO.on (a := a.put o.dst v) (h := a.h) k (by rw [put_h]; exact s) (by rw [put_h]; exact g') r1

def YldH (E : Env) (a : AS) (op : Op) (v : PV) (h' : Heap) : Prop :=
  ∀ w I G act (o : Oper), o.op = op → Good E w I G a.h → RS E w I a act → ∃ n u w' I' G', (execOp act.eval o).run E.P w = .ok n w' ∧ (n = .value u ∨ n = .skip ∧ u = undef) ∧ Good E w' I' G' h' ∧ Stp E.mono w I G a.h w' I' G' h' ∧ R w' I' v u
theorem SWO.yldh {ops : Array Oper} {o : Oper} {rest : List Oper} {Q : Exit → AS → Prop} {a : AS} {v : PV} {h' : Heap} (hy : YldH E a o.op v h') (hg : wantedA ops a o = some true) (hd : okDst a.n o.dst = true)
    (k : SWO E ops rest Q { a.put o.dst v with h := h' }) : SWO E ops (o :: rest) Q a :=
  SWO.to hg hd fun w I G act g r => by
    obtain ⟨n, u, w', I', G', h1, h2, h3, h4, h5⟩ := hy w I G act o rfl g r
    exact ⟨n, u, w', I', G', h', v, h1, h2, h3, h4, h5, k⟩
theorem YldH.store {a : AS} (t : TypeId) (p x : Operand) {i : TyI} (ht : E.ty t = some i) {r0 o0 : Nat} {t' : TypeId} {size : Nat} {cs : List PV} (hp : a.eval E p = .val (.pointer (some ⟨r0, o0, none⟩))) (hr0 : a.h r0 = some (.cells t' size cs))
    (h1 : known1 (a.eval E x) = true) (hsz : (a.eval E x).cells.length = i.size) (hfit : o0 + i.size ≤ cs.length) : YldH E a (.store t p x) .any (a.h.put r0 (.cells t' size (Lift.splice cs o0 (a.eval E x).cells))) := by
  intro w I G act o hop g r
  have hx := R_cells_run (r.eval g x) h1
  have hp' := r.eval g p
  rw [hp] at hp'
  have hp' := R_val hp'
  obtain ⟨_, _, _, us, rs, hh, hr, hl⟩ := g.own _ _ hr0
  have hxl := hx.length
  have hrl := hr.length
  have hst := run_storeCells_at E.P r0 o0 t' (act.eval x).cells.toList 0 (us ++ rs).toArray w hh (by simp; rw [Array.length_toList] at hxl; omega) hx.one
  simp only [Nat.add_zero] at hst
  let w2 := w.setRow r0 (us.take o0 ++ (act.eval x).cells.toList ++ us.drop (o0 + (act.eval x).cells.toList.length) ++ rs).toArray
  have hw2 : (storeVar t ⟨r0, o0, none⟩ (act.eval x)).run E.P w = .ok () w2 := by
    have e : (act.eval x).cells.size = i.size := by rw [← hsz, ← hxl, Array.length_toList]
    simp only [storeVar, Sem.run_bind, ty_sizeOf ht, Result.andThen_ok, e, ne_eq, not_true_eq_false, if_false]
    rw [hst]
    congr 2
    have h1 : o0 ≤ us.length := by omega
    have h2 : o0 + (act.eval x).cells.toList.length ≤ us.length := by omega
    rw [List.take_append_of_le_length h1, List.drop_append_of_le_length h2]
    simp
  have hob : RObj w2 I G r0 (.cells t' size (Lift.splice cs o0 (a.eval E x).cells)) := by
    have hk2 : Keeps w I w2 I := fun k hk => ⟨hk, setRow_other w r0 k _ (fun e => (g.own _ _ hr0).2.1 (e ▸ hk))⟩
    refine ⟨_, rs, setRow_heap w r0 _ _ t' (0, 0) hh, RL.keeps hk2 _ _ (hr.splice hx o0), ?_⟩
    simp only [List.length_append, List.length_take, List.length_drop]
    omega
  obtain ⟨g', s⟩ := g.write hr0 rfl (by simp [w2]) (fun k hk => setRow_other w r0 k _ hk) rfl rfl rfl hob
  exact ⟨.skip, undef, w2, I, G, by simp only [execOp, hop, Sem.run_bind, Instr.storeAt, hp', Instr.sureAddr, Sem.run_pure, Result.andThen_ok, hw2], .inr ⟨rfl, rfl⟩, g', s, trivial⟩
theorem Good.ruin (g : Good E w I G h) {r : Nat} {o : AObj} (hr : h r = some o) (hp : o.plain = true) (hsz : w'.heap.size = w.heap.size) (hb : ∀ k, k ≠ r → w'.heap[k]? = w.heap[k]?) (ho : w'.os = w.os) (ht : w'.tape = w.tape) (hout : w'.output = w.output) (hdr : E.mono = true → w.drawn ≤ w'.drawn := by first | exact fun _ => Nat.le_refl _ | exact fun _ => Nat.le_succ _) :
    Good E w' I G (h.del r) ∧ Stp E.mono w I G h w' I G (h.del r) := by
  obtain ⟨r1, r2, r3, _⟩ := g.own r o hr
  have hnh := g.noHid hr hp
  have hk : Keeps w I w' I := fun k hk => ⟨hk, hb k (fun e => r2 (e ▸ hk))⟩
  have hdn : ∀ k, h k = none → (h.del r) k = none := fun k e => by
    by_cases e2 : k = r
    · subst e2; exact Heap.del_same _ _
    · rw [Heap.del_ne _ e2]; exact e
  refine ⟨⟨fun q o' hq => ?_, fun k q hk' => ?_, fun k hk' => ?_, fun gl cs hgl => R1.keeps hk _ _ (g.glob gl cs hgl), E.keepW _ _ _ _ hk g.inv⟩, ⟨ho, ht, hout, by omega, fun k hk' a b => ⟨hb k (fun e => by subst e; rw [hr] at a; cases a), hdn k a, b⟩, fun k hk' => hk', fun k hk' a b hi => hi, hdr⟩⟩
  · by_cases e : q = r
    · subst e; rw [Heap.del_same] at hq; cases hq
    · rw [Heap.del_ne _ e] at hq
      obtain ⟨h1, h2, h3, h4⟩ := g.own q o' hq
      exact ⟨by omega, h2, h3, h4.keeps hk (hb q e) (fun k hk' => ⟨hk', hb k (fun e' => by subst e'; have := (g.hid k q hk').2.2.1; rw [hr] at this; cases this)⟩)⟩
  · obtain ⟨h1, h2, h3, T, e', bs, h4⟩ := g.hid k q hk'
    have hqr : q ≠ r := fun e => hnh k (by rw [hk', e])
    exact ⟨by omega, h2, hdn k h3, T, e', bs, (Heap.del_ne h hqr).trans h4⟩
  · have := g.imm k hk'; omega
def unBs : List PV → Option (List UInt8)
  | [] => some []
  | .int .u8 n :: xs => match unBs xs with
    | some l => if 0 ≤ n ∧ n < 256 then some (UInt8.ofNat n.toNat :: l) else none
    | none => none
  | _ => none
theorem unBs_spec : ∀ {xs : List PV} {l : List UInt8}, unBs xs = some l → xs = l.map fun b => PV.int .u8 b.toNat
  | [], l, h => by simp only [unBs, Option.some.injEq] at h; subst h; rfl
  | x :: xs, l, h => by
    unfold unBs at h
    split at h
    · rename_i he; cases he
    · rename_i n xs' he
      injection he with he1 he2
      subst he1; subst he2
      split at h
      · rename_i l' hl
        split at h
        · rename_i hn
          injection h with h
          subst h
          rw [unBs_spec hl]
          simp only [List.map_cons]
          congr 2
          have : (UInt8.ofNat n.toNat).toNat = n.toNat := by
            rw [UInt8.toNat_ofNat']; omega
          rw [this]; omega
        · cases h
      · cases h
    · cases h
theorem RL_byteVals {l : List UInt8} {us : List Value} (h : RL w I (l.map fun b => PV.int .u8 b.toNat) us) : us = byteVals l := by
  induction l generalizing us with
  | nil => simp only [List.map_nil, RL] at h; rw [h]; rfl
  | cons b l ih =>
    simp only [List.map_cons, RL, R1] at h
    obtain ⟨u, us', rfl, rfl, h⟩ := h
    rw [ih h]; rfl
theorem YldH.unsafeString {a : AS} (x y : Operand) (t ti : TypeId) {i ie : TyI} {e : TypeId} (ht : E.ty t = some i) (hk : i.k = .ptr e) (he : E.ty e = some ie) (hs1 : ie.size = 1) {r0 size m : Nat} {cs : List PV} {l : List UInt8} (hx : a.eval E x = .val (.pointer (some ⟨r0, 0, none⟩))) (hy : a.eval E y = .int .i64 m)
    (hr0 : a.h r0 = some (.cells e size cs)) (hm : 0 < m) (hl : unBs (cs.take m) = some l) (hlen : l.length = m) (hmax : m ≤ 9223372036854775807) : YldH E a (.call { callee := .builtin .unsafeString, args := #[x, y], argTypes := #[t, ti] }) (.str l) (a.h.del r0) := by
  intro w I G act o hop g r
  have hx' := r.eval g x
  rw [hx] at hx'
  have hx' := R_val hx'
  have hy' := r.eval g y
  rw [hy] at hy'
  have hy' := R_int hy'
  obtain ⟨h1, h2, h3, us, rs, hh, hr, hsz⟩ := g.own _ _ hr0
  have hus := hr.take m
  rw [unBs_spec hl] at hus
  have hus := RL_byteVals hus
  obtain ⟨inf, z, hi, hisz, _⟩ := ty_info he
  have hd := ty_under ht
  rw [hk] at hd
  have hcell : ∀ j x, l[j]? = some x → w.cell? ((⟨r0, 0, none⟩ : Addr).add j) = some (.int .u8 x.toNat) := by
    intro j x hj
    have e0 : (⟨r0, 0, none⟩ : Addr).add j = ⟨r0, j, none⟩ := by unfold Addr.add; split <;> simp_all
    rw [e0]
    refine cell_of_cells hh ?_
    have e1 : (us.take m)[j]? = some (.int .u8 x.toNat) := by rw [hus]; unfold byteVals; rw [List.getElem?_map, hj]; rfl
    rw [List.getElem?_take] at e1
    split at e1
    · exact e1
    · cases e1
  have hul : m ≤ us.length := by
    have := congrArg List.length hus
    simp only [List.length_take, byteVals, List.length_map, hlen] at this
    omega
  have hrun := Lib.run_unsafeString_row (P := E.P) w t ti o.type e hd (by simp [Program.cellsOf, hi, hisz, hs1]) r0 (us ++ rs).length (by simp [World.shape?, hh]) l (by intro e; subst e; simp at hlen; omega) (by rw [hlen, List.length_append]; omega) (by omega) hcell
  rw [hlen] at hrun
  have hfz : ∀ k, k ≠ r0 → (w.freeze ⟨r0, 0, none⟩ m).heap[k]? = w.heap[k]? := fun k hk => by
    unfold World.freeze
    split
    · rfl
    · simp only [Array.getElem?_modify]
      rw [if_neg (fun e => hk e.symm)]
  have hfs : (w.freeze ⟨r0, 0, none⟩ m).heap.size = w.heap.size := by
    unfold World.freeze
    split
    · rfl
    · simp
  obtain ⟨g', s⟩ := g.ruin (w' := w.freeze ⟨r0, 0, none⟩ m) hr0 rfl hfs hfz (by unfold World.freeze; split <;> rfl) (by unfold World.freeze; split <;> rfl) (by unfold World.freeze; split <;> rfl) (fun _ => by unfold World.freeze; split <;> exact Nat.le_refl _)
  refine ⟨_, .string ⟨l.toArray⟩, _, I, G, ?_, .inl rfl, g', s, rfl⟩
  simp only [execOp, hop, resolve, invoke, builtin, Sem.run_bind, Sem.run_pure, Result.andThen_ok, hx', hy', Array.map, List.map_toArray, List.map_cons, List.map_nil]
  simp [hx', hy', hrun]
theorem YldH.unsafeString_nil {a : AS} (x y : Operand) (t ti : TypeId) {p : Option Addr} (hx : a.eval E x = .val (.pointer p)) (hy : a.eval E y = .int .i64 0) : YldH E a (.call { callee := .builtin .unsafeString, args := #[x, y], argTypes := #[t, ti] }) (.str []) a.h := by
  intro w I G act o hop g r
  have hx' := r.eval g x
  rw [hx] at hx'
  have hx' := R_val hx'
  have hy' := r.eval g y
  rw [hy] at hy'
  have hy' := R_int hy'
  have hrun := Lib.run_unsafeString_none (P := E.P) w t ti o.type p
  refine ⟨_, .string ⟨#[]⟩, w, I, G, ?_, .inl rfl, g, .refl .., rfl⟩
  simp [execOp, hop, resolve, invoke, builtin, hx', hy', hrun]
  rfl
def hxOp (S : Specs E) : Op → Bool
  | .store .. => true
  | .call c => match c.callee with
    | .builtin .unsafeString => true
    | .value (.func f) => S.hasH f
    | _ => false
  | _ => false
def hxUS (E : Env) (h : Heap) (c : Call) (t : TypeId) (x y : PV) : Prop × PV × Heap :=
  match x with
  | .val (.pointer p) => match y with
    | .int .i64 n => match n with
      | .ofNat 0 => (True, .str [], h)
      | .ofNat (m + 1) => match p with
        | some ⟨r0, 0, none⟩ => match h r0 with
          | some (.cells e _ cs) => match E.ty t with
            | some i => match E.ty e with
              | some ie => match unBs (cs.take (m + 1)) with
                | some l => (i.k = .ptr e ∧ ie.size = 1 ∧ l.length = m + 1 ∧ m + 1 ≤ 9223372036854775807, .str l, h.del r0)
                | none => HBad h
              | none => HBad h
            | none => HBad h
          | _ => HBad h
        | _ => HBad h
      | _ => HBad h
    | _ => HBad h
  | _ => HBad h
def hx (E : Env) (S : Specs E) (ρ : Operand → PV) (h : Heap) : Op → Prop × PV × Heap
  | .store t p x => match E.ty t with
    | some i => match ρ p with
      | .val (.pointer (some ⟨r0, o0, none⟩)) => match h r0 with
        | some (.cells t' size cs) => (known1 (ρ x) = true ∧ (ρ x).cells.length = i.size ∧ o0 + i.size ≤ cs.length, .any, h.put r0 (.cells t' size (Lift.splice cs o0 (ρ x).cells)))
        | _ => HBad h
      | _ => HBad h
    | none => HBad h
  | .call c => match c.callee with
    | .value (.func f) => ((c.args.toList.all fun x => okArg (ρ x)) = true ∧ (S.atH f (c.args.toList.map ρ) h).1, (S.atH f (c.args.toList.map ρ) h).2)
    | .builtin .unsafeString => match c.args.toList with
      | [x, y] => match c.argTypes.toList with
        | [t, ti] => ((hxUS E h c t (ρ x) (ρ y)).1 ∧ c = { callee := .builtin .unsafeString, args := #[x, y], argTypes := #[t, ti] }, (hxUS E h c t (ρ x) (ρ y)).2)
        | _ => HBad h
      | _ => HBad h
    | _ => HBad h
  | _ => HBad h
def isHCall : Op → Bool
  | .call c => match c.callee with
    | .value (.func _) => true
    | _ => false
  | _ => false
theorem hx_ok {a : AS} {op : Op} (hn : isHCall op = false) (hp : (hx E S (a.eval E) a.h op).1) : YldH E a op (hx E S (a.eval E) a.h op).2.1 (hx E S (a.eval E) a.h op).2.2 := by
  cases op <;> try exact hp.elim
  case store t p x =>
    simp only [hx] at hp ⊢
    cases ht : E.ty t with
    | none => rw [ht] at hp; exact hp.elim
    | some i =>
      rw [ht] at hp
      dsimp only at hp ⊢
      split at hp
      · rename_i r0 o0 hpp
        try rw [hpp]
        try dsimp only at hp ⊢
        split at hp
        · rename_i t' size cs hr
          try rw [hr]
          exact YldH.store t p x ht hpp hr hp.1 hp.2.1 hp.2.2
        · exact hp.elim
      · exact hp.elim
  case call c =>
    simp only [hx] at hp ⊢
    split at hp
    · rename_i f hf
      exfalso
      simp only [isHCall, hf] at hn
      cases hn
    · rename_i hcal
      split at hp
      · rename_i x y hxy
        split at hp
        · rename_i t ti htt
          obtain ⟨hp, hc⟩ := hp
          rw [hc]
          unfold hxUS at hp ⊢
          split at hp
          · rename_i p hpx
            split at hp
            · rename_i n hny
              split at hp
              · exact YldH.unsafeString_nil x y t ti hpx hny
              · rename_i m
                split at hp
                · rename_i r0
                  split at hp
                  · rename_i e size cs hr
                    try dsimp only at hp ⊢
                    cases ht : E.ty t with
                    | none => rw [ht] at hp; exact hp.elim
                    | some i =>
                      cases he : E.ty e with
                      | none => rw [ht, he] at hp; exact hp.elim
                      | some ie =>
                        rw [ht, he] at hp
                        try dsimp only at hp ⊢
                        cases hl : unBs (cs.take (m + 1)) with
                        | none => rw [hl] at hp; exact hp.elim
                        | some l =>
                          rw [hl] at hp
                          obtain ⟨q1, q2, q3, q4⟩ := hp
                          exact YldH.unsafeString x y t ti ht q1 he q2 hpx hny hr (Nat.succ_pos m) hl q3 q4
                  · exact hp.elim
                · exact hp.elim
              · exact hp.elim
            · exact hp.elim
          · exact hp.elim
        · exact hp.elim
      · exact hp.elim
    · exact hp.elim

def isFlt (E : Env) (t : TypeId) : Bool :=
  match E.ty t with
  | some i => match i.k with
    | .float _ => true
    | _ => false
  | none => false
def stops (S : Specs E) : Op → Bool
  | .binOp op t _ _ _ => match op with
    | .add => isFlt E t
    | .sub => isFlt E t
    | .mul => isFlt E t
    | .quo => isFlt E t
    | _ => false
  | .call c => match c.callee with
    | .builtin .len => false
    | .builtin .cap => false
    | .builtin .min => false
    | .builtin .max => false
    | .builtin .unsafeSliceData => false
    | .builtin .unsafeString => false
    | .value (.func f) => !(S.has f || S.hasO f || S.hasH f)
    | _ => true
  | .makeSlice .. | .insert .. | .ready _ | .waits _ | .sliceToArrayPointer .. | .makeMap .. | .makeChan .. | .mapUpdate .. | .mapEntry .. | .entryStore .. | .range .. | .next .. | .entry _ | .go _ | .defer _ | .panic _ | .send .. | .recv .. | .select .. => true
  | _ => false

def zeroOf (E : Env) (t : TypeId) : List PV :=
  match E.ty t with
  | some i => i.zero.map ofVal
  | none => []
def okAlloc (E : Env) (t : TypeId) : Bool :=
  match E.ty t with
  | some i => okZero i
  | none => false
def isOwnCall (S : Specs E) : Op → Bool
  | .call c => match c.callee with
    | .value (.func f) => S.hasO f
    | .builtin .append => true
    | _ => false
  | _ => false
def isApp : Op → Bool
  | .call c => match c.callee with
    | .builtin .append => true
    | _ => false
  | _ => false
def isCap0 : PV → Bool
  | .cap0 => true
  | _ => false
theorem isCap0_spec {x : PV} (h : isCap0 x = true) : x = .cap0 := by cases x <;> first | rfl | cases h
def OwnR (op : Op) (h0 : Heap) (e : TypeId) (sz : Nat) (xs : List (List PV)) (v : PV) (h : Heap) : Prop := if isApp op = true then OwnC h0 e sz xs v h else Own h0 e sz xs v h
theorem OwnR.shape {op : Op} {h0 h : Heap} {e : TypeId} {sz : Nat} {xs : List (List PV)} {v : PV} (o : OwnR op h0 e sz xs v h) : h = h0 ∨ ∃ r X, h0 r = none ∧ h = h0.put r X := by
  unfold OwnR at o
  split at o
  · rcases o with ⟨_, _, rfl⟩ | ⟨_, _, rfl⟩ | ⟨r, cap, _, _, _, hr, rfl, _⟩
    · exact .inl rfl
    · exact .inl rfl
    · exact .inr ⟨r, _, hr, rfl⟩
  · rcases o with ⟨_, _, rfl⟩ | ⟨r, cap, _, _, _, hr, rfl, _⟩
    · exact .inl rfl
    · exact .inr ⟨r, _, hr, rfl⟩
def appSpec (E : Env) (ρ : Operand → PV) (args : List Operand) (ts : List TypeId) : Prop × PV :=
  match args with
  | [s, x] => match ts with
    | [t, tx] => match E.ty t with
      | some i => match i.k with
        | .slice e => match E.ty e with
          | some ie => match E.ty tx with
            | some ix => match srcOf ie.size (ρ x) with
              | some ys => (isCap0 (ρ s) = true ∧ 0 < ie.size ∧ ie.zero.length = ie.size ∧ srcTy ix.k (ρ x) = true ∧ ys.length * ie.bytes ≤ 140737488355328 ∧ ys.length ≤ maxLen, .tuple [.int .i64 e, .list ie.size ys])
              | none => PBad
            | none => PBad
          | none => PBad
        | _ => PBad
      | none => PBad
    | _ => PBad
  | _ => PBad
def ownSpec (S : Specs E) (ρ : Operand → PV) : Op → Prop × PV
  | .call c => match c.callee with
    | .value (.func f) => ((c.args.toList.all fun x => okArg (ρ x)) = true ∧ (S.atO f (c.args.toList.map ρ)).1, (S.atO f (c.args.toList.map ρ)).2)
    | .builtin .append => appSpec E ρ c.args.toList c.argTypes.toList
    | _ => PBad
  | _ => PBad
theorem appSpec_spec {ρ : Operand → PV} {args : List Operand} {ts : List TypeId} (h : (appSpec E ρ args ts).1) :
    ∃ s x t tx i e ie ix ys, args = [s, x] ∧ ts = [t, tx] ∧ E.ty t = some i ∧ i.k = .slice e ∧ E.ty e = some ie ∧ E.ty tx = some ix ∧ srcOf ie.size (ρ x) = some ys ∧ ρ s = .cap0 ∧ 0 < ie.size ∧ ie.zero.length = ie.size ∧ srcTy ix.k (ρ x) = true ∧ ys.length * ie.bytes ≤ 140737488355328 ∧ ys.length ≤ maxLen ∧
      (appSpec E ρ args ts).2 = .tuple [.int .i64 e, .list ie.size ys] := by
  match args, ts, h with
  | [s, x], [t, tx], h =>
    unfold appSpec at h ⊢
    dsimp only at h ⊢
    cases ht : E.ty t with
    | none => rw [ht] at h; exact h.elim
    | some i =>
    rw [ht] at h
    dsimp only at h ⊢
    cases hk : i.k <;> rw [hk] at h <;> try exact h.elim
    rename_i e
    dsimp only at h ⊢
    cases he : E.ty e with
    | none => rw [he] at h; exact h.elim
    | some ie =>
    rw [he] at h
    dsimp only at h ⊢
    cases htx : E.ty tx with
    | none => rw [htx] at h; exact h.elim
    | some ix =>
    rw [htx] at h
    dsimp only at h ⊢
    cases hsrc : srcOf ie.size (ρ x) with
    | none => rw [hsrc] at h; exact h.elim
    | some ys =>
    rw [hsrc] at h
    obtain ⟨c1, c2, c3, c4, c5, c6⟩ := h
    exact ⟨s, x, t, tx, i, e, ie, ix, ys, rfl, rfl, ht, hk, he, htx, hsrc, isCap0_spec c1, c2, c3, c4, c5, c6, rfl⟩
def step1 (E : Env) (S : Specs E) (o : Oper) (a : AS) (K : AS → Prop) : Prop :=
  match o.op with
  | .alloc t => okAlloc E t = true ∧ ∀ r, a.h r = none → K { a.put o.dst (.val (.pointer (some ⟨r, 0, none⟩))) with h := a.h.put r (.cells t (zeroOf E t).length (zeroOf E t)) }
  | .box t x => known1 (a.eval E x) = true ∧ ∀ r, a.h r = none → K { a.put o.dst (.val (.pointer (some ⟨r, 0, none⟩))) with h := a.h.put r (.cells t (a.eval E x).cells.length (a.eval E x).cells) }
  | op => if isOwnCall S op = true then (ownSpec S (a.eval E) op).1 ∧ ∀ u h', OwnR op a.h (ownOf (ownSpec S (a.eval E) op).2).1 (ownOf (ownSpec S (a.eval E) op).2).2.1 (ownOf (ownSpec S (a.eval E) op).2).2.2 u h' → K { a.put o.dst u with h := h' }
    else if hxOp S op = true then (hx E S (a.eval E) a.h op).1 ∧ K { a.put o.dst (hx E S (a.eval E) a.h op).2.1 with h := (hx E S (a.eval E) a.h op).2.2 }
    else (px E S (a.eval E) a.h op).1 ∧ K (a.put o.dst (px E S (a.eval E) a.h op).2)
def wpS (E : Env) (S : Specs E) (ops : Array Oper) : Nat → List Oper → (Exit → AS → Prop) → AS → Prop
  | _, [], Q, a => Q .normal a
  | 0, o :: rest, Q, a => SWO E ops (o :: rest) Q a
  | n + 1, o :: rest, Q, a => if stops S o.op = true then SWO E ops (o :: rest) Q a
    else if wantedA ops a o = some true then okDst a.n o.dst = true ∧ step1 E S o a (wpS E S ops n rest Q)
    else if wantedA ops a o = some false then okDst a.n o.dst = true ∧ wpS E S ops n rest Q (a.put o.dst (.tuple []))
    else False

theorem okAlloc_spec {t : TypeId} (h : okAlloc E t = true) : ∃ i, E.ty t = some i ∧ okZero i = true ∧ zeroOf E t = i.zero.map ofVal := by
  unfold okAlloc at h
  unfold zeroOf
  cases ht : E.ty t with
  | none => rw [ht] at h; cases h
  | some i => rw [ht] at h; exact ⟨i, rfl, h, rfl⟩
theorem SWO.hx {ops : Array Oper} {o : Oper} {rest : List Oper} {Q : Exit → AS → Prop} {a : AS} (hg : wantedA ops a o = some true) (hd : okDst a.n o.dst = true) (hp : (Lift.hx E S (a.eval E) a.h o.op).1)
    (k : SWO E ops rest Q { a.put o.dst (Lift.hx E S (a.eval E) a.h o.op).2.1 with h := (Lift.hx E S (a.eval E) a.h o.op).2.2 }) : SWO E ops (o :: rest) Q a := by
  cases hc : isHCall o.op with
  | false => exact SWO.yldh (hx_ok hc hp) hg hd k
  | true =>
    unfold isHCall at hc
    split at hc
    · rename_i c hop
      split at hc
      · rename_i f hcal
        obtain ⟨callee, args, ts⟩ := c
        dsimp only at hcal
        subst hcal
        rw [hop] at hp k
        exact SWO.call (.func f) args ts f #[] #[] hop rfl rfl rfl hp.1 (by simp) (Specs.okH hp.2) hg hd (fun p h' ⟨e, eh⟩ => by injection e with e; subst e; subst eh; exact k) (fun c h' ⟨e, _⟩ => by cases e)
      · cases hc
    · cases hc
theorem SWO.step1 {ops : Array Oper} {o : Oper} {rest : List Oper} {Q : Exit → AS → Prop} {a : AS} (hg : wantedA ops a o = some true) (hd : okDst a.n o.dst = true) (hs : step1 E S o a (SWO E ops rest Q)) : SWO E ops (o :: rest) Q a := by
  unfold Lift.step1 at hs
  split at hs
  · rename_i t hop
    obtain ⟨i, ht, hz, e⟩ := okAlloc_spec hs.1
    have h2 := hs.2
    rw [e, List.length_map] at h2
    exact SWO.alloc t hop ht hz hg hd h2
  · rename_i t x hop
    exact SWO.box t x hop hs.1 hg hd hs.2
  · split at hs
    · rename_i ho
      unfold isOwnCall at ho
      split at ho
      · rename_i c hop
        split at ho
        · rename_i f hcal
          obtain ⟨callee, args, ts⟩ := c
          dsimp only at hcal
          subst hcal
          have h1 := hs.1
          have h2 := hs.2
          rw [hop] at h1 h2
          exact SWO.call (.func f) args ts f #[] #[] hop rfl rfl rfl h1.1 (by simp) (Specs.okO h1.2) hg hd (fun p h' ⟨u, e, ow⟩ => by injection e with e; subst e; exact h2 _ _ ow) (fun c h' ⟨u, e, _⟩ => by cases e)
        · rename_i hcal
          obtain ⟨callee, args, ts⟩ := c
          dsimp only at hcal
          subst hcal
          have h1 := hs.1
          have h2 := hs.2
          rw [hop] at h1 h2
          have h1 : (appSpec E (a.eval E) args.toList ts.toList).1 := h1
          have h2 : ∀ u h', OwnC a.h (ownOf (appSpec E (a.eval E) args.toList ts.toList).2).1 (ownOf (appSpec E (a.eval E) args.toList ts.toList).2).2.1 (ownOf (appSpec E (a.eval E) args.toList ts.toList).2).2.2 u h' → _ := h2
          obtain ⟨s, x, t, tx, i, e, ie, ix, ys, ea, et, ht, hk, he, htx, hsrc, hs0, c2, c3, c4, c5, c6, c7⟩ := appSpec_spec h1
          rw [c7] at h2
          have ea : args = #[s, x] := by apply Array.ext'; rw [ea]
          have et : ts = #[t, tx] := by apply Array.ext'; rw [et]
          subst ea
          subst et
          refine SWO.appendC s x t tx hop ht hk he c2 c3 htx c4 (h0 := a.h) (xs := []) (.inl ⟨hs0, rfl, rfl⟩) hsrc (by simpa using c5) (by simpa using c6) hg hd fun v h' ow _ _ => ?_
          have hq : OwnC a.h e ie.size ys v h' := by
            rcases ow with ow | ⟨_, e2, _, e4, e5⟩
            · exact .inr ow
            · exact .inl ⟨e2, e4, e5⟩
          have h3 := h2 v h'
          have e7 : (ownSpec S (a.eval E) (Op.call { callee := Callee.builtin Builtin.append, args := #[s, x], argTypes := #[t, tx] })).2 = .tuple [.int .i64 e, .list ie.size ys] := c7
          first
            | exact h3 hq
            | (rw [e7] at h3; exact h3 hq)
        · cases ho
      · cases ho
    · split at hs
      · exact SWO.hx hg hd hs.1 hs.2
      · exact SWO.yldc (px_ok hs.1) hg hd hs.2
theorem step1_mono {o : Oper} {a : AS} {K K' : AS → Prop} (hk : ∀ a, K a → K' a) (hs : step1 E S o a K) : step1 E S o a K' := by
  unfold step1 at hs ⊢
  split at hs
  · exact ⟨hs.1, fun r hr => hk _ (hs.2 r hr)⟩
  · exact ⟨hs.1, fun r hr => hk _ (hs.2 r hr)⟩
  · split at hs
    · rename_i hc; rw [if_pos hc]; exact ⟨hs.1, fun u h' ow => hk _ (hs.2 u h' ow)⟩
    · rename_i ho
      rw [if_neg ho]
      split at hs
      · rename_i hc; rw [if_pos hc]; exact ⟨hs.1, hk _ hs.2⟩
      · rename_i hc; rw [if_neg hc]; exact ⟨hs.1, hk _ hs.2⟩
theorem SWO.run {ops : Array Oper} (S : Specs E) : ∀ (n : Nat) {rest : List Oper} {Q : Exit → AS → Prop} {a : AS}, wpS E S ops n rest Q a → SWO E ops rest Q a
  | 0, [], _, _, h => SWO.nil h
  | n + 1, [], _, _, h => SWO.nil h
  | 0, o :: rest, _, _, h => h
  | n + 1, o :: rest, Q, a, h => by
    unfold wpS at h
    split at h
    · exact h
    · split at h
      · rename_i hw; exact SWO.step1 hw h.1 (step1_mono (fun a k => SWO.run S n k) h.2)
      · split at h
        · rename_i hw; exact SWO.off hw h.1 (SWO.run S n h.2)
        · exact h.elim

def isB : PV → Bool
  | .bool _ => true
  | _ => false
def asB : PV → Bool
  | .bool b => b
  | _ => false
theorem isB_spec {v : PV} (h : isB v = true) : v = .bool (asB v) := by cases v <;> first | rfl | cases h
def tmpOf : Operand → Nat
  | .tmp t => t
  | _ => 0
def mayStop (S : Specs E) : Code → Bool
  | .loop _ => true
  | .rangeFunc .. => true
  | .scope _ => true
  | .goto _ => true
  | .region _ ops draw => draw || ops.toList.any fun o => stops S o.op
  | .seq x y => mayStop S x || mayStop S y
  | .cond _ x y => mayStop S x || mayStop S y
  | .block _ c => mayStop S c
  | _ => false
def wpC (E : Env) (S : Specs E) : Code → (Exit → AS → Prop) → AS → Prop
  | .skip, Q, a => Q .normal a
  | .label _, Q, a => Q .normal a
  | .exit id, Q, a => Q (.exit id) a
  | .ret, Q, a => Q .ret a
  | .seq x y, Q, a => if mayStop S x = true then wpC E S x (thenQ (SW E y Q) Q) a else wpC E S x (thenQ (wpC E S y Q) Q) a
  | .block id c, Q, a => wpC E S c (inQ id Q) a
  | .cond x y z, Q, a => isB (a.get (tmpOf x)) = true ∧ x = .tmp (tmpOf x) ∧ if asB (a.get (tmpOf x)) = true then wpC E S y Q a else wpC E S z Q a
  | .region id ops draw, Q, a => if draw = true then SW E (.region id ops draw) Q a else wpS E S ops 100000 ops.toList Q a
  | c, Q, a => SW E c Q a
theorem SW.run (S : Specs E) : ∀ (c : Code) {Q : Exit → AS → Prop} {a : AS}, wpC E S c Q a → SW E c Q a
  | .skip, _, _, h => SW.skip h
  | .label _, _, _, h => SW.label h
  | .exit _, _, _, h => SW.exit h
  | .ret, _, _, h => SW.ret h
  | .seq x y, Q, a, h => by
    unfold wpC at h
    split at h
    · exact SW.seq (SW.run S x h)
    · refine SW.seq ((SW.run S x h).mono fun e a q => ?_)
      cases e <;> first | exact SW.run S y q | exact q
  | .block id c, Q, a, h => by unfold wpC at h; exact SW.block (SW.run S c h)
  | .cond x y z, Q, a, h => by
    unfold wpC at h
    obtain ⟨h1, h2, h3⟩ := h
    rw [h2]
    refine SW.cond (isB_spec h1) ?_
    by_cases hb : asB (a.get (tmpOf x)) = true
    · rw [if_pos hb] at h3 ⊢; exact SW.run S y h3
    · rw [if_neg hb] at h3 ⊢; exact SW.run S z h3
  | .region id ops draw, Q, a, h => by
    unfold wpC at h
    cases draw with
    | true => rw [if_pos rfl] at h; exact h
    | false =>
      rw [if_neg (by simp)] at h
      have := SW.region (id := id) (SWO.run S _ h)
      simpa using this
  | .loop _, _, _, h => h
  | .rangeFunc .., _, _, h => h
  | .scope _, _, _, h => h
  | .goto _, _, _, h => h
  | .refuse _, _, _, h => h
end
end Go.Proofs.YtpgnfbdkhakbdaaGreatDoor.Lift
