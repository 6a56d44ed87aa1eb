/- Contracts of functions that the law reaches. -/
import Derived.Test.YthlibdhjcjangaaTy
import Derived.Test.YthlibdhjcjangaaShelf
import Derived.Test.YthlibdhjcjangaaLiftQ
set_option linter.unusedSimpArgs false
set_option linter.unusedVariables false
namespace Go.Proofs.Ythlibdhjcjangaa
open Go Go.RowKit Go.Proofs.Ythlibdhjcjangaa Go.Proofs.Ythlibdhjcjangaa.Lift

theorem index_find (s b : List UInt8) : IsFind s b (Lib.index s b) := by
  have e : ∀ (s : List UInt8) (j : Nat), Lib.occAt s b j = true ↔ b <+: s.drop j := fun s j => List.isPrefixOf_iff_prefix
  rcases Lib.index_spec s b with ⟨h1, h2⟩ | ⟨i, h1, h2, h3, h4⟩
  · exact .inl ⟨h1, fun j hj hp => by have := h2 j hj; rw [(e s j).2 hp] at this; cases this⟩
  · exact .inr ⟨i, h1, h2, (e s i).1 h3, fun j hj hp => by have := h4 j hj; rw [(e s j).2 hp] at this; cases this⟩
theorem flat1 (ns : List Int) : (ns.flatMap fun c => [u8of c]).length = ns.length := by
  induction ns with
  | nil => rfl
  | cons a ns ih => rw [List.flatMap_cons, List.length_append, ih, List.length_cons, List.length_cons, List.length_nil]; omega
theorem index_narrow (ns ms : List Int) (h1 : okChars ns) (h2 : okChars ms) (hw : anyWide ns = false) (hw2 : anyWide ms = false) : Lib.index (packL ns) (packL ms) = findI ns ms := by
  rw [packL_narrow hw, packL_narrow hw2, map_flat, map_flat]
  have hb := index_find (ns.flatMap fun c => [u8of c]) (ms.flatMap fun c => [u8of c])
  have e : ∀ j, (ms.flatMap fun c => [u8of c]) <+: (ns.flatMap fun c => [u8of c]).drop j ↔ ms <+: ns.drop j := fun j => by
    have := drop_flat (fun c => [u8of c]) 1 (fun _ => rfl) ns j
    rw [Nat.one_mul] at this
    rw [this]
    exact pre_flat (fun c => [u8of c]) 1 (fun _ => rfl) rngN u1_inj (by omega) _ _ (okN h2 hw2) (fun c hc => okN h1 hw c (List.mem_of_mem_drop hc))
  refine IsFind.same (a := ns) (b := ms) ?_ (findI_spec ns ms)
  rcases hb with ⟨h, h'⟩ | ⟨i, h, hi, hp, hn⟩
  · rw [flat1] at h'
    exact .inl ⟨h, fun j hj hp => h' j hj ((e j).2 hp)⟩
  · rw [flat1] at hi
    exact .inr ⟨i, h, hi, (e i).1 hp, fun j hj hp => hn j hj ((e j).2 hp)⟩
theorem find_nw (ns ms : List Int) (hw : anyWide ns = false) (hw2 : anyWide ms = true) : findI ns ms = -1 := by
  refine IsFind.same (findI_spec ns ms) (.inl ⟨rfl, fun j hj hp => ?_⟩)
  have : anyWide ms = false := anyWide_sub (fun c hc => List.mem_of_mem_drop (hp.subset hc)) hw
  rw [hw2] at this
  cases this
theorem occ4 (ns ms : List Int) (h1 : okChars ns) (h2 : okChars ms) (j : Nat) : (ms.flatMap be4) <+: (ns.flatMap be4).drop (4 * j) ↔ ms <+: ns.drop j := by
  rw [drop_flat be4 4 be4_len]
  exact pre_flat be4 4 be4_len rngW be4_inj (by omega) _ _ (okW h2) (fun c hc => okW h1 c (List.mem_of_mem_drop hc))
/-- A round of the search. -/
theorem round4 (ns ms : List Int) (h1 : okChars ns) (h2 : okChars ms) (k : Nat) (hk : k ≤ ns.length) (hn : ∀ j, j < k → ¬ ms <+: ns.drop j) :
    (Lib.index ((ns.flatMap be4).drop (4 * k)) (ms.flatMap be4) = -1 ∧ findI ns ms = -1) ∨
    (∃ i : Nat, Lib.index ((ns.flatMap be4).drop (4 * k)) (ms.flatMap be4) = i ∧ i ≤ 4 * (ns.length - k) ∧ ((i % 4 = 0 ∧ findI ns ms = ((k + i / 4 : Nat) : Int)) ∨ (i % 4 ≠ 0 ∧ k + i / 4 + 1 ≤ ns.length ∧ ∀ j, j < k + i / 4 + 1 → ¬ ms <+: ns.drop j))) := by
  have hd : (ns.flatMap be4).drop (4 * k) = (ns.drop k).flatMap be4 := drop_flat be4 4 be4_len ns k
  have hl : ((ns.flatMap be4).drop (4 * k)).length = 4 * (ns.length - k) := by rw [hd, flat_len be4 4 be4_len, List.length_drop]
  have hok : okChars (ns.drop k) := fun c hc => h1 c (List.mem_of_mem_drop hc)
  have e : ∀ j, (ms.flatMap be4) <+: ((ns.flatMap be4).drop (4 * k)).drop (4 * j) ↔ ms <+: ns.drop (k + j) := fun j => by
    rw [hd, occ4 (ns.drop k) ms hok h2 j, List.drop_drop]
  rcases index_find ((ns.flatMap be4).drop (4 * k)) (ms.flatMap be4) with ⟨h, h'⟩ | ⟨i, h, hi, hp, hno⟩
  · refine .inl ⟨h, IsFind.same (findI_spec ns ms) (.inl ⟨rfl, fun j hj hp => ?_⟩)⟩
    by_cases hjk : j < k
    · exact hn j hjk hp
    · refine h' (4 * (j - k)) (by rw [hl]; omega) ((e (j - k)).2 ?_)
      rw [show k + (j - k) = j by omega]
      exact hp
  · rw [hl] at hi
    refine .inr ⟨i, h, hi, ?_⟩
    have below : ∀ j, k ≤ j → 4 * (j - k) < i → ¬ ms <+: ns.drop j := fun j hj hlt hp => hno (4 * (j - k)) hlt ((e (j - k)).2 (by rw [show k + (j - k) = j by omega]; exact hp))
    by_cases hm : i % 4 = 0
    · refine .inl ⟨hm, IsFind.same (findI_spec ns ms) (.inr ⟨k + i / 4, rfl, by omega, ?_, fun j hj => ?_⟩)⟩
      · rw [← e, show 4 * (i / 4) = i by omega]
        exact hp
      · by_cases hjk : j < k
        · exact hn j hjk
        · exact below j (by omega) (by omega)
    · refine .inr ⟨hm, by omega, fun j hj => ?_⟩
      by_cases hjk : j < k
      · exact hn j hjk
      · exact below j (by omega) (by omega)
/-! strings.Index -/
noncomputable def envM (m : Int) : Env := env.glob [(0, [.int .i64 m])]
noncomputable def upM (m : Int) (s : SpecE env) : SpecE (envM m) := s.up rfl _
def sIndex : List PV → Prop × PV
  | [.str s, .str b] => (s.length ≤ 1000000000, .int .i64 (Lib.index s b))
  | _ => PBad
theorem Index_ok (m : Int) (s b : List UInt8) (h : Heap) (hs : s.length ≤ 1000000000) : SCalls (envM m) 44 [.str s, .str b] h (Ret (.int .i64 (Lib.index s b)) h) :=
  SCalls.ofRead Try.func44 rfl rfl fun w I G vs g r => by
    obtain ⟨u, us, rfl, h1, u2, us2, rfl, h2, h3⟩ := r
    have h3 : us2 = [] := h3
    subst h3
    have h1 : u = .string ⟨s.toArray⟩ := h1
    have h2 : u2 = .string ⟨b.toArray⟩ := h2
    subst h1; subst h2
    obtain ⟨ad, us', e1, hrl, hrow⟩ := g.glob 0 [.int .i64 m] rfl
    obtain ⟨u0, us0, rfl, hu0, hus0⟩ := hrl
    obtain ⟨ad', e2, _, hc⟩ := hrow (by simp)
    have hu0 : u0 = .int .i64 m := hu0
    subst hu0
    injection e1 with e1
    injection e1 with e1
    subst e1
    injection e2 with e2
    subst e2
    have hm := hc 0 (.int .i64 m) rfl
    exact ⟨.int .i64 (Lib.index s b), rfl, Try.strings_Index ⟨s.toArray⟩ ⟨b.toArray⟩ m w (by rw [size_mk]; omega) hm⟩
noncomputable def eIndex (m : Int) : SpecE (envM m) := ⟨44, sIndex, fun args h hc => by
  unfold sIndex at hc ⊢
  split at hc
  · rename_i s b; exact .inl (Index_ok m s b h hc)
  · exact hc.elim⟩
end Go.Proofs.Ythlibdhjcjangaa
