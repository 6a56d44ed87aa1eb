/- Structs, slice literals, variables, stores, make. -/
import Derived.Test.YthlibdhjcjangaaLiftI
set_option linter.unusedSimpArgs false
set_option linter.unusedVariables false
namespace Go.Proofs.Ythlibdhjcjangaa.Lift
open Go Go.RowKit

section
variable {E : Env} {w w1 w' : World} {I I1 I' : Nat → Prop} {G G1 G' : Nat → Option Nat} {h h' : Heap}

def placeOf (E : Env) (fs : List (Nat × TypeId)) (f : Nat) : Option (Nat × Nat) :=
  match fs[f]? with
  | some x => (E.ty x.2).map fun j => (x.1, j.size)
  | none => none
theorem run_mapM_list {α β : Type} (f : α → Sem β) (g : α → β) (w : World) : ∀ (l : List α), (∀ x ∈ l, (f x).run E.P w = .ok (g x) w) → (l.mapM f).run E.P w = .ok (l.map g) w
  | [], _ => by simp
  | x :: l, h => by
    simp only [List.mapM_cons, Sem.run_bind, h x (List.mem_cons_self ..), Result.andThen_ok, run_mapM_list f g w l (fun y hy => h y (List.mem_cons_of_mem _ hy)), Sem.run_pure, List.map_cons]
theorem run_mapM {α β : Type} (f : α → Sem β) (g : α → β) (w : World) (l : Array α) (h : ∀ x ∈ l.toList, (f x).run E.P w = .ok (g x) w) : (l.mapM f).run E.P w = .ok (l.map g) w := by
  have e : l.mapM f = List.toArray <$> l.toList.mapM f := by
    have := List.mapM_toArray (l := l.toList) (f := f)
    simpa using this
  rw [e, Sem.run_map, run_mapM_list f g w l.toList h]
  simp only [Result.andThen_ok]
  congr 1
  apply Array.ext'
  simp
def evParts (E : Env) (a : AS) (parts : List (Nat × Operand)) : List (Nat × PV) := parts.map fun x => (x.1, a.eval E x.2)
theorem fill_congr {p q : Nat → Option (Nat × Nat)} : ∀ (l : List (Nat × Value)) (cs : Array Value), (∀ x ∈ l, p x.1 = q x.1) → Instr.fill p cs l = Instr.fill q cs l
  | [], _, _ => rfl
  | (i, v) :: l, cs, h => by
    simp only [Instr.fill]
    rw [h (i, v) (List.mem_cons_self ..)]
    cases q i with
    | none => rfl
    | some x =>
      obtain ⟨off, size⟩ := x
      dsimp only
      split
      · rfl
      · exact fill_congr l _ (fun y hy => h y (List.mem_cons_of_mem _ hy))
theorem parts_R {a : AS} {act : Act} (g : Good E w I G a.h) (r : RS w I a act) (parts : List (Nat × Operand)) :
    ∀ (j : Nat) (x : Nat × PV) (v : Nat × Value), (evParts E a parts)[j]? = some x → (parts.map fun x => (x.1, act.eval x.2))[j]? = some v → R w I x.2 v.2 := by
  intro j x v hx hv
  unfold evParts at hx
  rw [List.getElem?_map] at hx hv
  cases e : parts[j]? with
  | none => rw [e] at hx; cases hx
  | some p =>
    rw [e] at hx hv
    simp only [Option.map_some, Option.some.injEq] at hx hv
    subst hx; subst hv
    exact r.eval g p.2
def okZero (i : TyI) : Bool := i.zero.all Value.oneCell'
theorem RL_zero (w : World) (I : Nat → Prop) {i : TyI} (hz : okZero i = true) : RL w I (i.zero.map ofVal) i.zero :=
  RL_ofVal w I _ (fun u hu => by unfold okZero at hz; rw [List.all_eq_true] at hz; exact hz u hu)
theorem Yld.build {a : AS} (t : TypeId) (parts : Array (Nat × Operand)) {i : TyI} {fs : List (Nat × TypeId)} {cs : List PV} (ht : E.ty t = some i) (hk : i.k = .struct fs) (hall : (fs.all fun x => (E.ty x.2).isSome) = true) (hz : okZero i = true)
    (hkn : known (evParts E a parts.toList) = true) (hf : pfill (placeOf E fs) (i.zero.map ofVal) (evParts E a parts.toList) = some cs) : Yld E a (.build t parts) (.agg cs) := by
  intro w I G act o ho g r
  have hd := ty_under ht
  rw [hk] at hd
  obtain ⟨fields, hd, hfs⟩ := hd
  obtain ⟨z, hzr, hzc⟩ := ty_zero ht w
  obtain ⟨us', hfill, hr⟩ := pfill_run (vs := (parts.toList.map fun x => (x.1, act.eval x.2))) hkn (by simp [evParts]) (parts_R g r parts.toList) (RL_zero w I hz) hf
  refine ⟨.agg us'.toArray, ?_, us', rfl, hr⟩
  have hm : (fields.mapM fun f => (do pure (f.offset, ← sizeOf f.type) : Sem (Nat × Nat))).run E.P w = .ok (fields.map fun f => (f.offset, E.P.cellsOf f.type)) w := by
    refine run_mapM _ _ w fields (fun f hf => ?_)
    have : (E.ty f.type).isSome = true := by
      rw [List.all_eq_true] at hall
      exact hall (f.offset, f.type) (by rw [← hfs]; exact List.mem_map.2 ⟨f, hf, rfl⟩)
    obtain ⟨j, hj⟩ := Option.isSome_iff_exists.1 this
    obtain ⟨inf, zz, h1, h2, _⟩ := ty_info hj
    simp [ty_sizeOf hj, Program.cellsOf, h1, h2]
  have hp : ∀ f, ((fields.map fun f => (f.offset, E.P.cellsOf f.type))[f]? : Option (Nat × Nat)) = placeOf E fs f := by
    intro f
    unfold placeOf
    rw [← hfs]
    simp only [Array.getElem?_map, List.getElem?_map, Array.getElem?_toList]
    cases e : fields[f]? with
    | none => rfl
    | some fl =>
      simp only [Option.map_some]
      have : (E.ty fl.type).isSome = true := by
        rw [List.all_eq_true] at hall
        exact hall (fl.offset, fl.type) (by rw [← hfs]; exact List.mem_map.2 ⟨fl, by have := Array.mem_of_getElem? e; simpa using this, rfl⟩)
      obtain ⟨j, hj⟩ := Option.isSome_iff_exists.1 this
      obtain ⟨inf, zz, h1, h2, _⟩ := ty_info hj
      simp [hj, Program.cellsOf, h1, h2]
  have hfill' : Instr.fill (fun f => ((fields.map fun f => (f.offset, E.P.cellsOf f.type))[f]?)) z.cells (parts.toList.map fun x => (x.1, act.eval x.2)) = some us'.toArray := by
    rw [fill_congr (q := placeOf E fs) _ _ (fun x _ => hp x.1), ← hfill]
    congr 1
    apply Array.ext'
    simp [hzc]
  simp only [execOp, ho, Instr.build, Sem.run_bind, hzr, Result.andThen_ok, run_underlying hd, hm]
  simp only [Array.toList_map]
  rw [show (List.map (fun x => match x with | (i, x) => (i, act.eval x)) parts.toList) = (parts.toList.map fun x => (x.1, act.eval x.2)) from rfl]
  rw [hfill']
  rfl

/-! ### Slice literals: nobody writes them -/
theorem run_buildSlice {a : AS} {act : Act} (g : Good E w I G a.h) (r : RS w I a act) (t : TypeId) (len : Nat) (parts : Array (Nat × Operand)) {i ie : TyI} {e : TypeId} {cs : List PV} (ht : E.ty t = some i) (hk : i.k = .slice e) (he : E.ty e = some ie) (hlen : len * ie.size ≤ 16777216) (hzl : ie.zero.length = ie.size) (hz : okZero ie = true)
    (hkn : known (evParts E a parts.toList) = true) (hf : pfill (fun i => some (i * ie.size, ie.size)) (List.replicate len (ie.zero.map ofVal)).flatten (evParts E a parts.toList) = some cs) :
    ∃ us, (Instr.buildSlice t len (parts.map fun (i, x) => (i, act.eval x))).run E.P w = .ok (.slice (some ⟨w.heap.size, 0, none⟩) len len) (w.alloc (.cells us.toArray e)) ∧ RL w I cs us := by
  have hd := ty_under ht
  rw [hk] at hd
  obtain ⟨z, hzr, hzc⟩ := ty_zero he w
  have hzRL : RL w I (List.replicate len (ie.zero.map ofVal)).flatten (List.replicate len ie.zero).flatten := by
    clear hf hlen
    induction len with
    | zero => simp [RL]
    | succ n ih =>
      simp only [List.replicate_succ, List.flatten_cons]
      exact (RL_zero w I hz).append ih
  obtain ⟨us', hfill, hr⟩ := pfill_run (vs := (parts.toList.map fun x => (x.1, act.eval x.2))) hkn (by simp [evParts]) (parts_R g r parts.toList) hzRL hf
  refine ⟨us', ?_, hr⟩
  have hsz : ¬ (len * ie.size > 2 ^ 24) := by omega
  have hcells : (Array.range (len * ie.size)).map (z.cells[· % z.cells.size]!) = (List.replicate len ie.zero).flatten.toArray := by
    have := zeroRow ie.zero len
    rw [hzl] at this
    have e2 : z.cells = ie.zero.toArray := by apply Array.ext'; simp [hzc]
    rw [e2, ← this, List.size_toArray, hzl]
  by_cases h0 : len * ie.size = 0
  · have hnil : (List.replicate len ie.zero).flatten = [] := by
      apply List.eq_nil_of_length_eq_zero
      simp [hzl, h0]
    rw [hnil] at hfill
    simp only [Instr.buildSlice, Sem.run_bind, run_underlying hd, Result.andThen_ok, ty_sizeOf he, h0, Sem.run_pure]
    simp only [Array.toList_map]
    rw [show (List.map (fun x => match x with | (i, x) => (i, act.eval x)) parts.toList) = (parts.toList.map fun x => (x.1, act.eval x.2)) from rfl]
    have e0 : ∀ (f : Nat → Value), Array.map f (Array.range 0) = #[] := fun f => by apply Array.ext'; simp
    simp [e0, hfill, run_newRow]
  · simp only [Instr.buildSlice, Sem.run_bind, run_underlying hd, Result.andThen_ok, ty_sizeOf he, h0, if_false, hsz, hzr, Sem.run_pure]
    simp only [Array.toList_map]
    rw [show (List.map (fun x => match x with | (i, x) => (i, act.eval x)) parts.toList) = (parts.toList.map fun x => (x.1, act.eval x.2)) from rfl]
    rw [hcells, hfill]
    simp [run_newRow]
theorem alloc_facts (w : World) (o : Obj) : (w.alloc o).heap.size = w.heap.size + 1 ∧ (∀ k, k < w.heap.size → (w.alloc o).heap[k]? = w.heap[k]?) ∧ (w.alloc o).os = w.os ∧ (w.alloc o).tape = w.tape ∧ (w.alloc o).output = w.output :=
  ⟨by simp, fun k hk => heap_alloc_lt w o k hk, rfl, rfl, rfl⟩
theorem Good.alloc_imm' (g : Good E w I G h) (o : Obj) : Good E (w.alloc o) (fun k => I k ∨ k = w.heap.size) G h ∧ Stp w I G h (w.alloc o) (fun k => I k ∨ k = w.heap.size) G h :=
  let ⟨h1, h2, h3, h4, h5⟩ := alloc_facts w o
  g.alloc_imm h1 h2 h3 h4 h5
theorem Good.alloc_own' (g : Good E w I G h) (o : Obj) {ob : AObj} (hob : RObj (w.alloc o) I G w.heap.size ob) : Good E (w.alloc o) I G (h.put w.heap.size ob) ∧ Stp w I G h (w.alloc o) I G (h.put w.heap.size ob) :=
  let ⟨h1, h2, h3, h4, h5⟩ := alloc_facts w o
  g.alloc_own h1 h2 h3 h4 h5 hob
theorem R1_row {w2 : World} {I2 : Nat → Prop} {us rest : List Value} {t : TypeId} {fz : Nat × Nat} {k : Nat} {sz n c : Nat} {xs : List (List PV)} (hh : w2.heap[k]? = some (.cells (us ++ rest).toArray t fz)) (hI : I2 k) (hr : RE w2 I2 sz xs us) (hn : xs.length = n) (hc : n ≤ c) (hm : c ≤ maxLen) :
    R1 w2 I2 (.list sz xs) (.slice (some ⟨k, 0, none⟩) n c) := by
  simp only [R1]
  refine ⟨_, c, us, by rw [hn], by omega, hm, hr, fun _ => ⟨_, rfl, hI, fun j u hj => ?_⟩⟩
  have e : (⟨k, 0, none⟩ : Addr).add j = ⟨k, j, none⟩ := by unfold Addr.add; split <;> simp_all
  rw [e]
  exact cell_of_cells hh hj
theorem YldW.buildSlice {a : AS} (t : TypeId) (len : Nat) (parts : Array (Nat × Operand)) {i ie : TyI} {e : TypeId} {cs : List PV} {xs : List (List PV)} (ht : E.ty t = some i) (hk : i.k = .slice e) (he : E.ty e = some ie) (hlen : len * ie.size ≤ 16777216) (hlm : len ≤ 16777216) (hzl : ie.zero.length = ie.size) (hz : okZero ie = true)
    (hkn : known (evParts E a parts.toList) = true) (hf : pfill (fun i => some (i * ie.size, ie.size)) (List.replicate len (ie.zero.map ofVal)).flatten (evParts E a parts.toList) = some cs) (hxs : cs = xs.flatten) (hw : ∀ x ∈ xs, x.length = ie.size) (hxl : xs.length = len) :
    YldW E a (.buildSlice t len parts) (.list ie.size xs) := by
  intro w I G act o ho g r
  obtain ⟨us, hrun, hr⟩ := run_buildSlice g r t len parts ht hk he hlen hzl hz hkn hf
  obtain ⟨g', s⟩ := g.alloc_imm' (.cells us.toArray e)
  refine ⟨_, _, _, by simp only [execOp, ho, Sem.run_bind, hrun]; rfl, g', s, ?_⟩
  have hr' := RL.keeps (s.keeps g) _ _ hr
  subst hxs
  exact R1_row (t := e) (rest := []) (fz := (0, 0)) (by rw [heap_alloc_at]; simp) (.inr rfl) (RE_of_flat hw hr') hxl (Nat.le_refl _) (by simp only [maxLen]; omega)

/-! ### Variables -/
theorem SWO.alloc {ops : Array Oper} {o : Oper} {rest : List Oper} {Q : Exit → AS → Prop} {a : AS} (t : TypeId) (hop : o.op = .alloc t) {i : TyI} (ht : E.ty t = some i) (hz : okZero i = true) (hg : wantedA ops a o = some true) (hd : okDst a.n o.dst = true)
    (k : ∀ r, a.h r = none → SWO E ops rest Q { a.put o.dst (.val (.pointer (some ⟨r, 0, none⟩))) with h := a.h.put r (.cells t i.zero.length (i.zero.map ofVal)) }) : SWO E ops (o :: rest) Q a := by
  refine SWO.to hg hd fun w I G act g r => ?_
  obtain ⟨z, hzr, hzc⟩ := ty_zero ht w
  have hob : RObj (w.alloc (.cells z.cells t)) I G w.heap.size (.cells t i.zero.length (i.zero.map ofVal)) := by
    refine ⟨i.zero, [], ?_, RL_zero _ _ hz, by simp⟩
    rw [heap_alloc_at]
    congr 2
    apply Array.ext'
    simp [hzc]
  obtain ⟨g', s⟩ := g.alloc_own' _ hob
  refine ⟨_, .pointer (some ⟨w.heap.size, 0, none⟩), _, I, G, _, .val (.pointer (some ⟨w.heap.size, 0, none⟩)), ?_, .inl rfl, g', s, ⟨rfl, rfl⟩, k _ g.fresh⟩
  simp only [execOp, hop, Instr.alloc, Sem.run_bind, hzr, Result.andThen_ok]
  rfl
def known1 : PV → Bool
  | .any | .tuple _ => false
  | _ => true
theorem R_cells_run {x : PV} {v : Value} (h : R w I x v) (h1 : known1 x = true) : RL w I x.cells v.cells.toList :=
  h.cells (fun e => by subst e; cases h1) (fun c e => by subst e; cases h1)
theorem SWO.box {ops : Array Oper} {o : Oper} {rest : List Oper} {Q : Exit → AS → Prop} {a : AS} (t : TypeId) (x : Operand) (hop : o.op = .box t x) (h1 : known1 (a.eval E x) = true) (hg : wantedA ops a o = some true) (hd : okDst a.n o.dst = true)
    (k : ∀ r, a.h r = none → SWO E ops rest Q { a.put o.dst (.val (.pointer (some ⟨r, 0, none⟩))) with h := a.h.put r (.cells t (a.eval E x).cells.length (a.eval E x).cells) }) : SWO E ops (o :: rest) Q a := by
  refine SWO.to hg hd fun w I G act g r => ?_
  have hx := R_cells_run (r.eval g x) h1
  have hk2 : Keeps w I (w.alloc (.cells (act.eval x).cells t)) I := fun k hk => ⟨hk, heap_alloc_lt _ _ _ (g.imm k hk)⟩
  have hob : RObj (w.alloc (.cells (act.eval x).cells t)) I G w.heap.size (.cells t (a.eval E x).cells.length (a.eval E x).cells) := by
    refine ⟨(act.eval x).cells.toList, [], ?_, RL.keeps hk2 _ _ hx, by simp [← hx.length]⟩
    rw [heap_alloc_at]
    simp
  obtain ⟨g', s⟩ := g.alloc_own' _ hob
  refine ⟨_, .pointer (some ⟨w.heap.size, 0, none⟩), _, I, G, _, .val (.pointer (some ⟨w.heap.size, 0, none⟩)), ?_, .inl rfl, g', s, ⟨rfl, rfl⟩, k _ g.fresh⟩
  simp only [execOp, hop, Instr.box, Sem.run_bind]
  rfl
theorem RL.splice {cs xs : List PV} {us vs : List Value} (h : RL w I cs us) (hx : RL w I xs vs) (off : Nat) : RL w I (Lift.splice cs off xs) (us.take off ++ vs ++ us.drop (off + vs.length)) := by
  unfold Lift.splice
  rw [← hx.length]
  exact ((h.take off).append hx).append (h.drop _)
theorem SWO.store {ops : Array Oper} {o : Oper} {rest : List Oper} {Q : Exit → AS → Prop} {a : AS} (t : TypeId) (p x : Operand) (hop : o.op = .store t p x) {i : TyI} (ht : E.ty t = some i) {r0 o0 : Nat} {t' : TypeId} {size : Nat} {cs : List PV} (hp : a.eval E p = .val (.pointer (some ⟨r0, o0, none⟩))) (hr0 : a.h r0 = some (.cells t' size cs))
    (h1 : known1 (a.eval E x) = true) (hsz : (a.eval E x).cells.length = i.size) (hfit : o0 + i.size ≤ cs.length) (hg : wantedA ops a o = some true) (hd : o.dst = none)
    (k : SWO E ops rest Q { a with h := a.h.put r0 (.cells t' size (Lift.splice cs o0 (a.eval E x).cells)) }) : SWO E ops (o :: rest) Q a := by
  refine SWO.to hg (by rw [hd]; rfl) fun w I G act g r => ?_
  have hx := R_cells_run (r.eval g x) h1
  have hp' := r.eval g p
  rw [hp] at hp'
  have hp' := R_val hp'
  obtain ⟨_, _, _, us, rs, hh, hr, hl⟩ := g.own _ _ hr0
  have hxl := hx.length
  have hrl := hr.length
  have hst := run_storeCells_at E.P r0 o0 t' (act.eval x).cells.toList 0 (us ++ rs).toArray w hh (by simp; rw [Array.length_toList] at hxl; omega) hx.one
  simp only [Nat.add_zero] at hst
  let w2 := w.setRow r0 (us.take o0 ++ (act.eval x).cells.toList ++ us.drop (o0 + (act.eval x).cells.toList.length) ++ rs).toArray
  have hw2 : (storeVar t ⟨r0, o0, none⟩ (act.eval x)).run E.P w = .ok () w2 := by
    have e : (act.eval x).cells.size = i.size := by rw [← hsz, ← hxl, Array.length_toList]
    simp only [storeVar, Sem.run_bind, ty_sizeOf ht, Result.andThen_ok, e, ne_eq, not_true_eq_false, if_false]
    rw [hst]
    congr 2
    have h1 : o0 ≤ us.length := by omega
    have h2 : o0 + (act.eval x).cells.toList.length ≤ us.length := by omega
    rw [List.take_append_of_le_length h1, List.drop_append_of_le_length h2]
    simp
  have hob : RObj w2 I G r0 (.cells t' size (Lift.splice cs o0 (a.eval E x).cells)) := by
    have hk2 : Keeps w I w2 I := fun k hk => ⟨hk, setRow_other w r0 k _ (fun e => (g.own _ _ hr0).2.1 (e ▸ hk))⟩
    refine ⟨_, rs, setRow_heap w r0 _ _ t' (0, 0) hh, RL.keeps hk2 _ _ (hr.splice hx o0), ?_⟩
    simp only [List.length_append, List.length_take, List.length_drop]
    omega
  obtain ⟨g', s⟩ := g.write hr0 rfl (by simp [w2]) (fun k hk => setRow_other w r0 k _ hk) rfl rfl rfl hob
  refine ⟨.skip, undef, w2, I, G, _, .any, ?_, .inr ⟨rfl, rfl⟩, g', s, trivial, ?_⟩
  · simp only [execOp, hop, Sem.run_bind, Instr.storeAt, hp', Instr.sureAddr, Sem.run_pure, Result.andThen_ok, hw2]
  · rw [hd]; exact k
end
end Go.Proofs.Ythlibdhjcjangaa.Lift
