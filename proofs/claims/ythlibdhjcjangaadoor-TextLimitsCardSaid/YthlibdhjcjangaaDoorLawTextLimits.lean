/- At every input the law TextLimits answers true, does not panic, and changes nothing that was there, where the package variables that its row lists hold what the program's text lays in them (the card ties this). Conditions: none beyond those that the given statement itself names. -/
import Derived.Test.YthlibdhjcjangaaDoorTie
import Derived.Test.YthlibdhjcjangaaDoorCards
import Derived.Test.YthlibdhjcjangaaDoorLaid
import Derived.Test.YthlibdhjcjangaaDoorU9
import Derived.WalkKit
import Derived.ProofKit
import Derived.OpenShut
import Derived.ShutString
import Derived.ChangeOld
import Derived.Below
import Derived.SizedLaws
import Derived.Carry
import Derived.JoinedOf
import Derived.LaidLaws
import Derived.LaidOnce
import Derived.Lay
import Derived.SevenTiedAt
import Derived.MakeChecks
set_option linter.unusedSimpArgs false
set_option linter.unusedVariables false
namespace Go.Proofs.YthlibdhjcjangaaDoor.textLimits
open Go.ChangeShapes Go.WideShapes Go.ChangeAt Go.RowKit Go.Proofs.YthlibdhjcjangaaDoor.Lift
open Go.ChangeMaps (open_string shut_string)
theorem own : ownKnob Tryd.prog.godebug = none := by kernel_rfl
theorem laidOut : laidOutB Tryd.prog = true := by kernel_rfl
theorem walk (W : World) (hL : laidMetH Tryd.prog Rows.textLimitsRow.laid W) (a0 : Int) (b0 : -9223372036854775808 ≤ a0 ∧ a0 < 9223372036854775808) (a1 : Int) (b1 : 0 ≤ a1 ∧ a1 < 256) : Calls Tryd.prog 4 #[.int .i64 a0, .int .u8 a1] W (fun e W' => e = .returned (.bool true) ∧ Below W.heap.size W W') :=
  SCalls.belowG (TextLimits_ok a0 a1 noHeap b0 b1) (fun _ _ _ h => h) W (fun b => b < W.heap.size) (fun _ h => h) (laid_glob hL).1 [.int .i64 a0, .int .u8 a1] ⟨_, _, rfl, rfl, _, _, rfl, rfl, rfl⟩ (laid_glob hL).2
set_option maxRecDepth 100000 in
theorem lifted (os : Os) (started : os.Started) (H : Type) (enc : TypeId × Value → H) :
    ReturnsInHanded {} Tryd.checked os 4 .any (fun w args => (Rows.textLimitsSpec.pre enc Tryd.prog Tryd.f4 [] false w args ∧ laidMetH Tryd.prog Rows.textLimitsRow.laid w) ∧ sizedMet enc Tryd.prog Tryd.f4 (OpenSpec.ofChange Rows.textLimitsSpec) false w args) (Rows.textLimitsSpec.post enc Tryd.prog Tryd.f4 false true false false) := by
  refine returnsInHanded_of_change_and (C := Tryd.checked) (X := fun w _ => laidMetH Tryd.prog Rows.textLimitsRow.laid w) (fun _ _ _ hh h => h.of_heap hh) own started (by kernel_rfl) Tryd.func4
    (ChangeSpec.witness_at (enc := enc) (C := Tryd.checked) (os := os) (X := fun w _ => laidMetH Tryd.prog Rows.textLimitsRow.laid w) false (World.laidAll Tryd.prog os Rows.textLimitsRow.laid) #[.int .i64 0, .int .u8 0] 8 (World.laidAll_os _ _ _) (by kernel_rfl) (by kernel_rfl) (by kernel_rfl) (by kernel_rfl) (by kernel_rfl)
      (by rw [MakeChecks.laidMetH_plain _ _ _ (by kernel_rfl)]; exact laidMet_laidAll _ (by kernel_rfl) (by kernel_rfl))) ?_
  intro W base args ds gs before hval0 hW _ _ hL _
  have hval : ∀ (j : Nat) t v, Tryd.f4.params[j]? = some t → args[j]? = some v → Value.okWide Tryd.prog W .any base t v := hval0
  have hW' := hW
  obtain ⟨p, q, hA0, hV, rfl, hfz, hnd⟩ := hW
  have hA : DataW.TrodAll enc Tryd.prog W 0 (fun _ => true) true Tryd.f4.params.toList args.toList ds p := hA0
  rw [Tryd.params4] at hA hval
  obtain ⟨v0, vs0, d0, ds0, p0, q0, hargs, rfl, rfl, h0, r0⟩ := trodAll_cons hA
  obtain ⟨v1, vs1, d1, ds1, p1, q1, rfl, rfl, rfl, h1, r1⟩ := trodAll_cons r0
  obtain ⟨rfl, rfl, rfl⟩ := trodAll_nil r1
  obtain rfl : args = #[v0, v1] := by cases args; simp_all
  obtain ⟨rfl, rfl⟩ := trodVars_none hV
  obtain ⟨a0, rfl, rfl, rfl, w0⟩ := open_int Tryd.underlying3 (hval 0 3 v0 rfl rfl) h0
  have b0 := i64_b w0
  obtain ⟨a1, rfl, rfl, rfl, w1⟩ := open_int Tryd.underlying5 (hval 1 5 v1 rfl rfl) h1
  have b1 := u8_b w1
  clear hA0 hval0
  refine (walk W hL a0 b0 a1 b1).mono fun e W' ⟨he, bel⟩ => ?_
  subst he
  exact ⟨_, rfl, _, _, _, [], _, [], hW', trodAll_mk1 (shut_bool Tryd.underlying4 _), (trodAll_cons_mk (shut_int Tryd.underlying3 w0) (trodAll_cons_mk (shut_int Tryd.underlying5 w1) trodAll_mk0)), rfl, bel.frame _, fun h => by cases h⟩
theorem over : Rows.textLimitsRow.holds Tryd.pinned (OpenSpec.ofChange Rows.textLimitsSpec) :=
  OpenClaim.holds_of_wide 4 Tryd.f4 rfl rfl rfl rfl rfl rfl rfl ⟨rfl, rfl, rfl, rfl, rfl⟩ rfl rfl rfl rfl rfl (by kernel_rfl) Tryd.func4 (by kernel_rfl)
    (of_decide_eq_true (by kernel_rfl)) (by unfold Func.isWrapper; first | (rw [if_pos (by decide +kernel)]; kernel_rfl) | (rw [if_neg (by decide +kernel)]; exact ⟨rfl, rfl⟩))
    (fun os started H enc _ => lifted os started H enc)
theorem proved : Rows.TextLimitsCardSaid :=
  Claim7.holds_tied_plain_at .later [] [.data, .pinned] true (true, "f088021c36e10d98daf2c38f9578d22e16081e2ae8b41a32d620a6fe63a28691") true over (fun _ h => by cases h) (by kernel_rfl) (fun _ h => by cases h) textLimits_row_tie rfl ⟨rfl, rfl⟩ (by kernel_rfl) rfl
    (fun f fn hf hfn => by
      obtain rfl : f = 4 := Option.some.inj ((show Tryd.prog.funcNamed "acheron/acheronlaw01.TextLimits" = some 4 by kernel_rfl).symm.trans hf) |>.symm
      obtain rfl : fn = Tryd.f4 := (Option.some.inj (Tryd.func4.symm.trans hfn)).symm
      exact ⟨by kernel_rfl, fun j t ht => by
        rw [Tryd.params4] at ht
        have hm : t ∈ [3, 5] := by
          have := Array.mem_of_getElem? ht
          simpa using this
        have hall : ([3, 5].all fun u => !Tryd.prog.wantsStandIn u) = true := by kernel_rfl
        exact (show Tryd.prog.wantsStandIn t = false by simpa using List.all_eq_true.1 hall t hm)⟩)
    (by kernel_rfl)
#print axioms proved
end Go.Proofs.YthlibdhjcjangaaDoor.textLimits
