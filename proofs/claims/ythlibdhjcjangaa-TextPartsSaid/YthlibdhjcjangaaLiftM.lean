/- A slice of one's own: made, read, written, let go; conversions of strings; ranging over a string. -/
import Derived.Test.YthlibdhjcjangaaLiftL
import Derived.Laws.IdiomStrings
import Derived.Laws.Cover4
import Derived.Lib.OthersKept
set_option linter.unusedSimpArgs false
set_option linter.unusedVariables false
namespace Go.Proofs.Ythlibdhjcjangaa.Lift
open Go Go.RowKit

section
variable {E : Env} {w w1 w' : World} {I I1 I' : Nat → Prop} {G G1 G' : Nat → Option Nat} {h h' h0 : Heap}

theorem take_drop_flat {sz : Nat} : ∀ {xs : List (List PV)}, (∀ x ∈ xs, x.length = sz) → ∀ {i : Nat} {x : List PV}, xs[i]? = some x → (xs.flatten.drop (i * sz)).take sz = x
  | [], _, i, x, hx => by simp at hx
  | y :: ys, hw, i, x, hx => by
    have hy := hw y (List.mem_cons_self ..)
    have hw' : ∀ z ∈ ys, z.length = sz := fun z hz => hw z (List.mem_cons_of_mem _ hz)
    cases i with
    | zero =>
      simp only [List.getElem?_cons_zero, Option.some.injEq] at hx
      subst hx
      simp only [List.flatten_cons, Nat.zero_mul, List.drop_zero]
      rw [List.take_append_of_le_length (by omega), List.take_of_length_le (by omega)]
    | succ i =>
      simp only [List.getElem?_cons_succ] at hx
      simp only [List.flatten_cons]
      rw [show (i + 1) * sz = y.length + i * sz by rw [hy, Nat.add_mul]; omega, List.drop_length_add_append]
      exact take_drop_flat hw' hx
theorem splice_flat {sz : Nat} : ∀ {xs : List (List PV)}, (∀ x ∈ xs, x.length = sz) → ∀ {i : Nat} {c : List PV}, i < xs.length → c.length = sz → splice xs.flatten (i * sz) c = (xs.set i c).flatten
  | [], _, i, c, hi, _ => by simp at hi
  | y :: ys, hw, i, c, hi, hc => by
    have hy := hw y (List.mem_cons_self ..)
    have hw' : ∀ z ∈ ys, z.length = sz := fun z hz => hw z (List.mem_cons_of_mem _ hz)
    cases i with
    | zero =>
      unfold splice
      simp only [List.flatten_cons, Nat.zero_mul, List.take_zero, List.nil_append, Nat.zero_add, List.set_cons_zero]
      rw [hc, ← hy, List.drop_left]
    | succ i =>
      have ih := splice_flat hw' (i := i) (c := c) (by simpa using hi) hc
      unfold splice at ih ⊢
      simp only [List.flatten_cons, List.set_cons_succ]
      rw [show (i + 1) * sz = y.length + i * sz by rw [hy, Nat.add_mul]; omega, List.take_length_add_append, Nat.add_assoc, List.drop_length_add_append, ← ih]
      simp
theorem splice_flat_part {sz : Nat} : ∀ {xs : List (List PV)}, (∀ x ∈ xs, x.length = sz) → ∀ {i k : Nat} {c x : List PV}, xs[i]? = some x → k + c.length ≤ sz → splice xs.flatten (i * sz + k) c = (xs.set i (splice x k c)).flatten
  | [], _, i, k, c, x, hi, _ => by simp at hi
  | y :: ys, hw, i, k, c, x, hi, hc => by
    have hy := hw y (List.mem_cons_self ..)
    have hw' : ∀ z ∈ ys, z.length = sz := fun z hz => hw z (List.mem_cons_of_mem _ hz)
    cases i with
    | zero =>
      simp only [List.getElem?_cons_zero, Option.some.injEq] at hi
      subst hi
      unfold splice
      simp only [List.flatten_cons, Nat.zero_mul, Nat.zero_add, List.set_cons_zero]
      rw [List.take_append_of_le_length (by omega), List.drop_append_of_le_length (by omega)]
      simp
    | succ i =>
      simp only [List.getElem?_cons_succ] at hi
      have ih := splice_flat_part hw' hi hc
      unfold splice at ih ⊢
      simp only [List.flatten_cons, List.set_cons_succ]
      rw [show (i + 1) * sz + k = y.length + (i * sz + k) by rw [hy, Nat.add_mul]; omega, List.take_length_add_append, Nat.add_assoc, List.drop_length_add_append, ← ih]
      simp

theorem rep_len {α : Type} (z : List α) : ∀ n, (List.replicate n z).flatten.length = n * z.length
  | 0 => by simp
  | n + 1 => by rw [List.replicate_succ, List.flatten_cons, List.length_append, rep_len z n, Nat.add_mul, Nat.one_mul, Nat.add_comm]
/-- make: a row of zeros. -/
theorem SWO.make {ops : Array Oper} {o : Oper} {rest : List Oper} {Q : Exit → AS → Prop} {a : AS} (t : TypeId) (l c : Operand) (hop : o.op = .makeSlice t l c) {i ie : TyI} {e : TypeId} (ht : E.ty t = some i) (hk : i.k = .slice e) (he : E.ty e = some ie) (hzl : ie.zero.length = ie.size) (hz : okZero ie = true) (hzp : 0 < ie.size)
    {kl kc : IntKind} {n : Nat} (hl : a.eval E l = .int kl n) (hc : a.eval E c = .int kc n) (hb : ie.bytes * n ≤ 281474976710656) (hm : n ≤ 9223372036854775807) (hg : wantedA ops a o = some true) (hd : okDst a.n o.dst = true)
    (k : ∀ r, a.h r = none → SWO E ops rest Q { a.put o.dst (.val (.slice (some ⟨r, 0, none⟩) n n)) with h := a.h.put r (.cells e (n * ie.size) (List.replicate n (ie.zero.map ofVal)).flatten) }) : SWO E ops (o :: rest) Q a := by
  refine SWO.to hg hd fun w I G act g r => ?_
  have hdt := ty_under ht
  rw [hk] at hdt
  obtain ⟨inf, z, hi, hisz, hiby, hiz, hzc, _⟩ := ty_info he
  have hl' := r.eval g l
  rw [hl] at hl'
  have hc' := r.eval g c
  rw [hc] at hc'
  have hr := run_make (P := E.P) w t e inf z hdt hi hiz kl kc n n (by omega) (by omega) (by rw [hiby]; omega) (by omega)
  simp only [Int.toNat_natCast] at hr
  have hcells : madeCells z.cells (n * inf.size) = (List.replicate n ie.zero).flatten.toArray := by
    have := zeroRow ie.zero n
    have e2 : z.cells = ie.zero.toArray := by apply Array.ext'; simp [hzc]
    unfold madeCells
    rw [e2, hisz, ← hzl]
    exact this
  rw [hcells] at hr
  have hRL : ∀ (w2 : World) (I2 : Nat → Prop), RL w2 I2 (List.replicate n (ie.zero.map ofVal)).flatten (List.replicate n ie.zero).flatten := by
    intro w2 I2
    clear hr hcells hl' hc' hb hm hl hc k
    induction n with
    | zero => simp [RL]
    | succ n ih =>
      simp only [List.replicate_succ, List.flatten_cons]
      exact (RL_zero w2 I2 hz).append ih
  have hob : RObj (w.alloc (.cells (List.replicate n ie.zero).flatten.toArray e)) I G w.heap.size (.cells e (n * ie.size) (List.replicate n (ie.zero.map ofVal)).flatten) :=
    ⟨_, [], by rw [heap_alloc_at, List.append_nil], hRL _ _, by rw [rep_len, hzl, List.length_nil, Nat.add_zero]⟩
  obtain ⟨g', s⟩ := g.alloc_own' _ hob
  refine ⟨_, .slice (some ⟨w.heap.size, 0, none⟩) n n, _, I, G, _, .val (.slice (some ⟨w.heap.size, 0, none⟩) n n), ?_, .inl rfl, g', s, ⟨rfl, rfl⟩, k _ g.fresh⟩
  simp only [execOp, hop, Sem.run_bind, R_int hl', R_int hc', hr, Result.andThen_ok, Sem.run_pure]
theorem Own.made {e : TypeId} {sz n : Nat} {r : Nat} (z : List PV) (hz : z.length = sz) (hr : h0 r = none) (hm : n ≤ maxLen) : Own h0 e sz (List.replicate n z) (.val (.slice (some ⟨r, 0, none⟩) n n)) (h0.put r (.cells e (n * sz) (List.replicate n z).flatten)) :=
  .inr ⟨r, n, by simp, by simp, hm, hr, rfl, fun x hx => by rw [(List.mem_replicate.1 hx).2]; exact hz⟩

/-- What is one's own is let go: it is a list. -/
theorem RS.set {a : AS} {act : Act} (r : RS w I a act) (t : Nat) (v : PV) (hv : R w I v (act.tmps.getD t undef)) (h' : Heap) : RS w I { a.put (some t) v with h := h' } act := by
  refine ⟨r.defers, r.size, fun u => ?_⟩
  have := AS.get_put a t v u
  show R w I ((a.put (some t) v).get u) _
  rw [this]
  split
  · rename_i e; subst e; exact hv
  · exact r.slot u
theorem SW.own_let {c : Code} {Q : Exit → AS → Prop} {a : AS} (t : Nat) {e : TypeId} {sz : Nat} {xs : List (List PV)} {v : PV} (hv : a.get t = v) (hown : Own h0 e sz xs v a.h) (k : SW E c Q { a.put (some t) (.list sz xs) with h := h0 }) : SW E c Q a := by
  intro w I G act g r
  have hs := r.slot t
  rw [hv] at hs
  rcases hown with ⟨rfl, rfl, hh⟩ | ⟨r0, cap, rfl, hle, hcm, h0r, hh, hwd⟩
  · have hs := R_val hs
    have r' := r.set t (.list sz []) (by rw [hs]; show R1 w I _ _; simp only [R1]; exact ⟨none, 0, [], rfl, Nat.le_refl _, by simp [maxLen], by simp [RE], fun h => absurd rfl h⟩) h0
    have := k w I G act (by show Good E w I G h0; rw [← hh]; exact g) r'
    simp only at this
    rw [hh]
    exact this
  · have hs := R_val hs
    have hr0 : a.h r0 = some (.cells e (cap * sz) xs.flatten) := by rw [hh]; exact Heap.put_same _ _ _
    obtain ⟨g', s⟩ := g.let_go hr0 rfl
    obtain ⟨_, _, _, us, rs, hcell, hrl, hsz⟩ := g.own _ _ hr0
    have hk := s.keeps g
    have hdel : a.h.del r0 = h0 := by rw [hh, Heap.del_put _ _ _ h0r]
    rw [hdel] at g' s
    have r' := (r.keeps hk).set t (.list sz xs) (by
      rw [hs]
      exact R1_row hcell (.inr rfl) (RE_of_flat hwd (RL.keeps hk _ _ hrl)) rfl hle hcm) h0
    exact wp_mono (k w _ G act g' r') fun _ _ _ p => p.trans s

/-! ### Conversions -/
theorem Yld.convert_bytes_str {a : AS} {s t : TypeId} (x : Operand) {i ie j : TyI} {e : TypeId} {l : List UInt8} (hs : E.ty s = some i) (hk : i.k = .slice e) (he : E.ty e = some ie) (hke : ie.k = .int .u8) (ht : E.ty t = some j) (hj : j.k = .str) (hx : a.eval E x = .list 1 (l.map fun b => [PV.int .u8 b.toNat])) : Yld E a (.convert s t x) (.str l) := by
  intro w I G act o ho g r
  have h1 := r.eval g x
  rw [hx] at h1
  obtain ⟨A, c, us, e1, hl, hm, hr, hat⟩ := R_list h1
  have hds := ty_under hs; rw [hk] at hds
  have hdt := ty_under ht; rw [hj] at hdt
  have hde := ty_under he; rw [hke] at hde
  have hus : us = byteVals l := by
    clear hat e1 hl hx h1
    induction l generalizing us with
    | nil => simpa [RE, byteVals] using hr
    | cons b l ih =>
      simp only [List.map_cons, RE] at hr
      obtain ⟨u1, u2, rfl, _, h3, h4⟩ := hr
      simp only [RL, R1] at h3
      obtain ⟨u, us', rfl, rfl, rfl⟩ := h3
      rw [ih _ h4]; rfl
  refine ⟨.string ⟨l.toArray⟩, ?_, rfl⟩
  have hrun : (convert s t (act.eval x)).run E.P w = .ok (.string ⟨l.toArray⟩) w := by
    rw [e1]
    rw [List.length_map] at hl ⊢
    cases hA : A with
    | none =>
      have : l = [] := by
        have hne : us = [] := by
          by_cases hne : us = []
          · exact hne
          · obtain ⟨ad, e2, _⟩ := hat hne
            rw [hA] at e2; cases e2
        rw [hus] at hne
        simpa [byteVals] using hne
      subst this
      simp [convert, run_underlying hds, run_underlying hdt, run_underlying hde, Conv.bytesToString]
      rfl
    | some ad =>
      refine run_convert_bytes_back w s t e ad c l hds hde hdt (fun j hj' => ?_)
      have hne : us ≠ [] := by
        rw [hus]
        intro hn
        have : l = [] := by simpa [byteVals] using hn
        subst this
        simp at hj'
      obtain ⟨ad', e2, _, hc⟩ := hat hne
      rw [hA] at e2
      injection e2 with e2; subst e2
      refine hc j _ ?_
      rw [hus]
      simp [byteVals, hj']
  simp only [execOp, ho, Sem.run_bind, hrun]
  rfl
/-- The bytes of a rune. -/
def encL (r : Int) : List UInt8 := (Utf8.encode r).data.toList
theorem runesBytes_eq (ns : List Int) : runesBytes ns = ⟨(ns.flatMap encL).toArray⟩ := by
  unfold runesBytes
  have key : ∀ (ns : List Int) (s : ByteArray), ns.foldl (fun r n => r ++ Utf8.encode n) s = ⟨(s.data.toList ++ ns.flatMap encL).toArray⟩ := by
    intro ns
    induction ns with
    | nil => intro s; simp
    | cons n ns ih =>
      intro s
      simp only [List.foldl_cons]
      rw [ih, Go.Joins.data_append]
      simp [encL]
  rw [key]
  rfl
theorem ints_of_RE {k : IntKind} {ns : List Int} : ∀ {us : List Value}, RE w I 1 (ns.map fun n => [PV.int k n]) us → us = ns.map (Value.int k) := by
  induction ns with
  | nil => intro us hr; simpa [RE] using hr
  | cons n ns ih =>
    intro us hr
    simp only [List.map_cons, RE] at hr
    obtain ⟨u1, u2, rfl, _, h3, h4⟩ := hr
    simp only [RL, R1] at h3
    obtain ⟨u, us', rfl, rfl, rfl⟩ := h3
    rw [ih h4]; rfl
theorem Yld.convert_runes_str {a : AS} {s t : TypeId} (x : Operand) {i ie j : TyI} {e : TypeId} {ns : List Int} (hs : E.ty s = some i) (hk : i.k = .slice e) (he : E.ty e = some ie) (hke : ie.k = .int .i32) (ht : E.ty t = some j) (hj : j.k = .str) (hx : a.eval E x = .list 1 (ns.map fun n => [PV.int .i32 n])) : Yld E a (.convert s t x) (.str (ns.flatMap encL)) := by
  intro w I G act o ho g r
  have h1 := r.eval g x
  rw [hx] at h1
  obtain ⟨A, c, us, e1, hl, hm, hr, hat⟩ := R_list h1
  have hds := ty_under hs; rw [hk] at hds
  have hdt := ty_under ht; rw [hj] at hdt
  have hde := ty_under he; rw [hke] at hde
  have hus := ints_of_RE hr
  refine ⟨.string ⟨(ns.flatMap encL).toArray⟩, ?_, rfl⟩
  have hrun : (convert s t (act.eval x)).run E.P w = .ok (.string ⟨(ns.flatMap encL).toArray⟩) w := by
    rw [e1]
    rw [List.length_map] at hl ⊢
    cases hA : A with
    | none =>
      have : ns = [] := by
        have hne : us = [] := by
          by_cases hne : us = []
          · exact hne
          · obtain ⟨ad, e2, _⟩ := hat hne
            rw [hA] at e2; cases e2
        rw [hus] at hne
        simpa using hne
      subst this
      simp [convert, run_underlying hds, run_underlying hdt, run_underlying hde, Conv.runesToString]
      rfl
    | some ad =>
      have hload : (loadCells ad ns.length).run E.P w = .ok (ns.map (Value.int .i32)).toArray w := by
        have := run_loadCells_list (P := E.P) w ad (ns.map (Value.int .i32)) (fun j v hj => by
          have hne : us ≠ [] := by rw [hus]; intro hn; rw [hn] at hj; simp at hj
          obtain ⟨ad', e2, _, hc⟩ := hat hne
          rw [hA] at e2
          injection e2 with e2; subst e2
          exact hc j v (by rw [hus]; exact hj))
        simpa using this
      have := run_runesToString w ad ns.length c ns hload
      rw [runesBytes_eq] at this
      simp only [convert, Sem.run_bind, run_underlying hds, run_underlying hdt, run_underlying hde, Result.andThen_ok]
      exact this
  simp only [execOp, ho, Sem.run_bind, hrun]
  rfl
theorem Yld.convert_int_str {a : AS} {s t : TypeId} (x : Operand) {i j : TyI} {k k' : IntKind} {n : Int} (hs : E.ty s = some i) (hk : i.k = .int k') (ht : E.ty t = some j) (hj : j.k = .str) (hx : a.eval E x = .int k n) : Yld E a (.convert s t x) (.str (encL n)) := by
  intro w I G act o ho g r
  have h1 := r.eval g x
  rw [hx] at h1
  have hds := ty_under hs; rw [hk] at hds
  have hdt := ty_under ht; rw [hj] at hdt
  refine ⟨.string ⟨(encL n).toArray⟩, ?_, rfl⟩
  have e : (⟨(encL n).toArray⟩ : ByteArray) = Utf8.encode n := by unfold encL; exact Go.Joins.bytes_eta _
  rw [e]
  simp [execOp, ho, R_int h1, convert, run_underlying hds, run_underlying hdt, Conv.intToString]
/-- The runes of bytes. -/
def runesAt (s : ByteArray) : Nat → Nat → List Int
  | 0, _ => []
  | n + 1, i => if i < s.size then ((Utf8.decode s i).1 : Int) :: runesAt s n (i + (Utf8.decode s i).2) else []
def runesOf (l : List UInt8) : List Int := runesAt ⟨l.toArray⟩ l.length 0
theorem runesFrom_eq (s : ByteArray) : ∀ (n i : Nat) (acc : Array Value), Conv.runesFrom s n i acc = acc ++ ((runesAt s n i).map (Value.int .i32)).toArray
  | 0, i, acc => by simp [Conv.runesFrom, runesAt]
  | n + 1, i, acc => by
    simp only [Conv.runesFrom, runesAt]
    split
    · rw [runesFrom_eq s n]
      apply Array.ext'
      simp
    · simp
theorem runesAt_len (s : ByteArray) : ∀ n i, (runesAt s n i).length ≤ n
  | 0, _ => by simp [runesAt]
  | n + 1, i => by
    simp only [runesAt]
    split
    · have := runesAt_len s n (i + (Utf8.decode s i).2); simp; omega
    · simp
theorem RE_ints (w : World) (I : Nat → Prop) (k : IntKind) : ∀ ns : List Int, RE w I 1 (ns.map fun n => [PV.int k n]) (ns.map (Value.int k))
  | [] => by simp [RE]
  | n :: ns => by
    simp only [List.map_cons, RE]
    refine ⟨[.int k n], ns.map (Value.int k), rfl, rfl, ?_, RE_ints w I k ns⟩
    simp [RL, R1]
theorem YldW.convert_str_runes {a : AS} {s t : TypeId} (x : Operand) {i j je : TyI} {e : TypeId} {l : List UInt8} (hs : E.ty s = some i) (hk : i.k = .str) (ht : E.ty t = some j) (hj : j.k = .slice e) (he : E.ty e = some je) (hke : je.k = .int .i32) (hx : a.eval E x = .str l) (hl : l.length ≤ 70368744177664) :
    YldW E a (.convert s t x) (.list 1 ((runesOf l).map fun n => [PV.int .i32 n])) := by
  intro w I G act o ho g r
  have h1 := r.eval g x
  rw [hx] at h1
  have hds := ty_under hs; rw [hk] at hds
  have hdt := ty_under ht; rw [hj] at hdt
  have hde := ty_under he; rw [hke] at hde
  have hrf : Conv.runesFrom ⟨l.toArray⟩ (⟨l.toArray⟩ : ByteArray).size 0 #[] = ((runesOf l).map (Value.int .i32)).toArray := by
    rw [runesFrom_eq, size_mk]
    simp [runesOf]
  have hlen : (runesOf l).length ≤ l.length := runesAt_len _ _ _
  have hrun := run_runes_of_string (P := E.P) w s t e ⟨l.toArray⟩ hds hdt hde (by rw [hrf]; simp; omega)
  rw [hrf] at hrun
  simp only [List.size_toArray, List.length_map] at hrun
  let cap := grownCap w (runesOf l).length 0 e
  have hge : (runesOf l).length ≤ cap := grownCap_ge _ _ _ _
  have hcm : cap ≤ maxLen := grownCap_le_maxLen w _ _ e (by simp only [maxLen]; omega)
  let ob : Obj := .cells (((runesOf l).map (Value.int .i32)).toArray ++ Array.replicate (cap - (runesOf l).length) (.int .i32 0)) e
  obtain ⟨g', st⟩ := g.alloc_imm (w' := w.drew.alloc ob) (by simp) (fun k hk => heap_alloc_lt w.drew _ k hk) rfl rfl rfl
  refine ⟨_, _, _, by simp only [execOp, ho, Sem.run_bind, R_str h1, hrun]; rfl, g', st, ?_⟩
  have hat : (w.drew.alloc ob).heap[w.heap.size]? = some (.cells ((runesOf l).map (Value.int .i32) ++ List.replicate (cap - (runesOf l).length) (Value.int .i32 0)).toArray e (0, 0)) := by
    have := heap_alloc_at w.drew ob
    refine this.trans ?_
    simp only [ob]
    congr 2
    apply Array.ext'
    simp
  exact R1_row (t := e) (fz := (0, 0)) hat (.inr rfl) (RE_ints _ _ _ _) (by simp) hge hcm
end
end Go.Proofs.Ythlibdhjcjangaa.Lift
