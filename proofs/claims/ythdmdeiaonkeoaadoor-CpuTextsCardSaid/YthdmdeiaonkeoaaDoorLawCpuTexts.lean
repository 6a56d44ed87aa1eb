/- At every input the law CpuTexts answers true, does not panic, and changes nothing that was there, where the package variables that its row lists hold what the program's text lays in them (the card ties this). Conditions: none beyond those that the given statement itself names. -/
import Derived.Test.YthdmdeiaonkeoaaDoorTie
import Derived.Test.YthdmdeiaonkeoaaDoorCards
import Derived.Test.YthdmdeiaonkeoaaDoorLaid
import Derived.Test.YthdmdeiaonkeoaaDoorT33
import Derived.WalkKit
import Derived.ProofKit
import Derived.OpenShut
import Derived.ShutString
import Derived.ChangeOld
import Derived.Below
import Derived.SizedLaws
import Derived.Carry
import Derived.JoinedOf
import Derived.LaidLaws
import Derived.LaidOnce
import Derived.Lay
import Derived.SevenTiedAt
import Derived.MakeChecks
set_option linter.unusedSimpArgs false
set_option linter.unusedVariables false
namespace Go.Proofs.YthdmdeiaonkeoaaDoor.cpuTexts
open Go.ChangeShapes Go.WideShapes Go.ChangeAt Go.RowKit Go.Proofs.YthdmdeiaonkeoaaDoor.Lift
open Go.ChangeMaps (open_string shut_string)
theorem own : ownKnob Tryd.prog.godebug = none := by kernel_rfl
theorem laidOut : laidOutB Tryd.prog = true := by kernel_rfl
theorem walk (W : World) (hL : laidMetH Tryd.prog Rows.cpuTextsRow.laid W) (hsh : W.ShapedOpen Tryd.prog) (a0_0 a0_1 a0_2 a0_3 a0_4 : Int) (a1 : ByteArray) : Calls Tryd.prog 8 #[.agg #[.int .i64 a0_0, .int .i64 a0_1, .int .i64 a0_2, .int .i64 a0_3, .int .i64 a0_4], .string a1] W (fun e W' => e = .returned (.bool true) ∧ Below W.heap.size W W') :=
  SCalls.belowG (CpuTexts_ok a0_0 a0_1 a0_2 a0_3 a0_4 a1.data.toList noHeap ) (fun _ _ _ h => h) W (fun b => b < W.heap.size) (fun _ h => h) (laid_glob hL hsh).1 [.agg #[.int .i64 a0_0, .int .i64 a0_1, .int .i64 a0_2, .int .i64 a0_3, .int .i64 a0_4], .string a1] ⟨_, _, rfl, ⟨_, rfl, _, _, rfl, rfl, _, _, rfl, rfl, _, _, rfl, rfl, _, _, rfl, rfl, _, _, rfl, rfl, rfl⟩, _, _, rfl, R0_str _ _ a1, rfl⟩ (laid_glob hL hsh).2
set_option maxRecDepth 100000 in
theorem lifted (os : Os) (started : os.Started) (H : Type) (enc : TypeId × Value → H) :
    ReturnsInHanded {} Tryd.checked os 8 .any (fun w args => (Rows.cpuTextsSpec.pre enc Tryd.prog Tryd.f8 [] false w args ∧ laidMetH Tryd.prog Rows.cpuTextsRow.laid w) ∧ sizedMet enc Tryd.prog Tryd.f8 (OpenSpec.ofChange Rows.cpuTextsSpec) false w args) (Rows.cpuTextsSpec.post enc Tryd.prog Tryd.f8 false true false false) := by
  refine returns_laid (C := Tryd.checked) (X := fun w _ => laidMetH Tryd.prog Rows.cpuTextsRow.laid w) (fun _ _ _ hh h => h.of_heap hh) own started (by kernel_rfl) Tryd.func8
    (ChangeSpec.witness_at (enc := enc) (C := Tryd.checked) (os := os) (X := fun w _ => laidMetH Tryd.prog Rows.cpuTextsRow.laid w) false (World.laidAll Tryd.prog os Rows.cpuTextsRow.laid) #[.agg #[.int .i64 0, .int .i64 0, .int .i64 0, .int .i64 0, .int .i64 0], .string ByteArray.empty] 8 (World.laidAll_os _ _ _) (by kernel_rfl) (by kernel_rfl) (by kernel_rfl) (by kernel_rfl) (by kernel_rfl)
      (by rw [MakeChecks.laidMetH_plain _ _ _ (by kernel_rfl)]; exact laidMet_laidAll _ (by kernel_rfl) (by kernel_rfl))) ?_
  intro W base args ds gs before hval0 hW _ _ hL hsh
  have hval : ∀ (j : Nat) t v, Tryd.f8.params[j]? = some t → args[j]? = some v → Value.okWide Tryd.prog W .any base t v := hval0
  have hW' := hW
  obtain ⟨p, q, hA0, hV, rfl, hfz, hnd⟩ := hW
  have hA : DataW.TrodAll enc Tryd.prog W 0 (fun _ => true) true Tryd.f8.params.toList args.toList ds p := hA0
  rw [Tryd.params8] at hA hval
  obtain ⟨v0, vs0, d0, ds0, p0, q0, hargs, rfl, rfl, h0, r0⟩ := trodAll_cons hA
  obtain ⟨v1, vs1, d1, ds1, p1, q1, rfl, rfl, rfl, h1, r1⟩ := trodAll_cons r0
  obtain ⟨rfl, rfl, rfl⟩ := trodAll_nil r1
  obtain rfl : args = #[v0, v1] := by cases args; simp_all
  obtain ⟨rfl, rfl⟩ := trodVars_none hV
  have k0 := h0
  have lt0 : ∀ x ∈ p0, x.block < W.heap.size := by obtain ⟨m, hm⟩ := k0; exact DataW.trod_lt m _ _ _ hm
  obtain ⟨a0_0, a0_1, a0_2, a0_3, a0_4, rfl⟩ : ∃ a0_0 a0_1 a0_2 a0_3 a0_4 : Int, v0 = .agg #[.int .i64 a0_0, .int .i64 a0_1, .int .i64 a0_2, .int .i64 a0_3, .int .i64 a0_4] := by
    obtain ⟨ns, hn, e, hw⟩ := open_structInts (q := .i64) Tryd.underlying23 (by kernel_rfl) (by
      intro i f hf
      match i, hf with
      | 0, hf => injection hf with hf; subst hf; exact ⟨rfl, by kernel_rfl, Tryd.underlying3⟩
      | 1, hf => injection hf with hf; subst hf; exact ⟨rfl, by kernel_rfl, Tryd.underlying3⟩
      | 2, hf => injection hf with hf; subst hf; exact ⟨rfl, by kernel_rfl, Tryd.underlying3⟩
      | 3, hf => injection hf with hf; subst hf; exact ⟨rfl, by kernel_rfl, Tryd.underlying3⟩
      | 4, hf => injection hf with hf; subst hf; exact ⟨rfl, by kernel_rfl, Tryd.underlying3⟩
      | (n + 5), hf => exact absurd hf (by simp)) (hval 0 23 v0 rfl rfl) h0
    match ns, hn with
    | [a0_0, a0_1, a0_2, a0_3, a0_4], _ => exact ⟨a0_0, a0_1, a0_2, a0_3, a0_4, e⟩
  obtain ⟨a1, rfl, rfl, rfl, y1⟩ := open_string Tryd.underlying9 (hval 1 9 v1 rfl rfl) h1
  clear hA0 hval0
  refine (walk W hL hsh a0_0 a0_1 a0_2 a0_3 a0_4 a1).mono fun e W' ⟨he, bel⟩ => ?_
  subst he
  exact ⟨_, rfl, _, _, _, [], _, [], hW', trodAll_mk1 (shut_bool Tryd.underlying4 _), (trodAll_cons_mk (Below.trod laidOut (by kernel_rfl) (of_decide_eq_true (by kernel_rfl)) k0 bel lt0) (trodAll_cons_mk (shut_string Tryd.underlying9 y1) trodAll_mk0)), rfl, bel.frame _, fun h => by cases h⟩
theorem over : Rows.cpuTextsRow.holds Tryd.pinned (OpenSpec.ofChange Rows.cpuTextsSpec) :=
  OpenClaim.holds_of_wide 8 Tryd.f8 rfl rfl rfl rfl rfl rfl rfl ⟨rfl, rfl, rfl, rfl, rfl⟩ rfl rfl rfl rfl rfl (by kernel_rfl) Tryd.func8 (by kernel_rfl)
    (of_decide_eq_true (by kernel_rfl)) (by unfold Func.isWrapper; first | (rw [if_pos (by decide +kernel)]; kernel_rfl) | (rw [if_neg (by decide +kernel)]; exact ⟨rfl, rfl⟩))
    (fun os started H enc _ => lifted os started H enc)
theorem proved : Rows.CpuTextsCardSaid :=
  Claim7.holds_tied_plain_at .later [] [.data, .data, .data, .data, .sentinel, .sentinel, .widerDeep, .data, .pinned] true (true, "f3f61675c5924d2f45c6272e8e5108fc410f58adf0d34e731b59dbb16b93d7a1") true over (fun _ h => by cases h) (by kernel_rfl) (fun _ h => by cases h) cpuTexts_row_tie rfl ⟨rfl, rfl⟩ (by kernel_rfl) rfl
    (fun f fn hf hfn => by
      obtain rfl : f = 8 := Option.some.inj ((show Tryd.prog.funcNamed "acheron/acheronlaw25.CpuTexts" = some 8 by kernel_rfl).symm.trans hf) |>.symm
      obtain rfl : fn = Tryd.f8 := (Option.some.inj (Tryd.func8.symm.trans hfn)).symm
      exact ⟨by kernel_rfl, fun j t ht => by
        rw [Tryd.params8] at ht
        have hm : t ∈ [23, 9] := by
          have := Array.mem_of_getElem? ht
          simpa using this
        have hall : ([23, 9].all fun u => !Tryd.prog.wantsStandIn u) = true := by kernel_rfl
        exact (show Tryd.prog.wantsStandIn t = false by simpa using List.all_eq_true.1 hall t hm)⟩)
    (by kernel_rfl)
#print axioms proved
end Go.Proofs.YthdmdeiaonkeoaaDoor.cpuTexts
