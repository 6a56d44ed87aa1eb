/- Contracts of functions that the law reaches. -/
import Derived.Test.YthlibdhjcjangaaDoorTs
set_option linter.unusedSimpArgs false
set_option linter.unusedVariables false
namespace Go.Proofs.YthlibdhjcjangaaDoor
open Go Go.RowKit Go.Proofs.YthlibdhjcjangaaDoor Go.Proofs.YthlibdhjcjangaaDoor.Lift
set_option maxRecDepth 100000

def unS : List (List PV) → Option (List (List UInt8 × Bool))
  | [] => some []
  | [.str l, .bool w] :: xs => match unS xs with
    | some ps => some ((l, w) :: ps)
    | none => none
  | _ => none
theorem unS_elS (ps : List (List UInt8 × Bool)) : unS (elS ps) = some ps := by
  induction ps with
  | nil => rfl
  | cons p ps ih => show unS ([.str p.1, .bool p.2] :: elS ps) = _; rw [unS, ih]
theorem unS_spec : ∀ {xs : List (List PV)} {ps : List (List UInt8 × Bool)}, unS xs = some ps → xs = elS ps
  | [], ps, h => by rw [unS] at h; injection h with h; subst h; rfl
  | x :: xs, ps, h => by
    unfold unS at h
    split at h
    · rename_i heq; cases heq
    · rename_i l w ys heq
      injection heq with e1 e2
      subst e1; subst e2
      split at h
      · rename_i qs hq
        injection h with h
        subst h
        rw [unS_spec hq]
        rfl
      · cases h
    · cases h
def sJoin : List PV → Prop × PV
  | [.list 2 xs] => match unS xs with
    | some ps => (sumS ps ≤ 65536 ∧ (∀ p ∈ ps, p.1.length ≤ 1000000000) ∧ (joinL ps).length ≤ 1000000000 ∧ ps.length ≤ 1000000000, .tuple [.agg [.str (joinL ps), .bool (anyS ps)], .int .i64 0])
    | none => PBad
  | _ => PBad
noncomputable def eJoin : SpecE env := ⟨15, sJoin, fun args h hc => by
  unfold sJoin at hc ⊢
  split at hc
  · rename_i xs
    split at hc
    · rename_i ps hps
      rw [unS_spec hps]
      exact .inl (Join_ok ps h hc.1 hc.2.1 hc.2.2.1 hc.2.2.2)
    · exact hc.elim
  · exact hc.elim⟩
/-! packed parts -/
theorem packL_wide {ns : List Int} (h : anyWide ns = true) : packL ns = ns.flatMap be4 := by unfold packL; rw [if_pos h]
theorem packL_narrow {ns : List Int} (h : anyWide ns = false) : packL ns = ns.map u8of := by unfold packL; rw [h]; rfl
theorem anyWide_append (a b : List Int) : anyWide (a ++ b) = (anyWide a || anyWide b) := by unfold anyWide; rw [List.any_append]
theorem part_pack (ns : List Int) (any : Bool) (hv : okChars ns) (h : anyWide ns = true → any = true) : partS any (packL ns, anyWide ns) = if any = true then ns.flatMap be4 else ns.map u8of := by
  unfold partS
  dsimp only
  cases ha : any with
  | false =>
    have hn : anyWide ns = false := by
      cases hw : anyWide ns
      · rfl
      · rw [h hw] at ha; cases ha
    rw [if_neg (by simp), if_neg (by simp), packL_narrow hn]
  | true =>
    rw [if_pos rfl]
    cases hw : anyWide ns with
    | false => rw [if_pos ⟨rfl, rfl⟩, ← hw, packed_chars ns hv]
    | true => rw [if_neg (by simp), packL_wide hw]
def packs (nss : List (List Int)) : List (List UInt8 × Bool) := nss.map fun ns => (packL ns, anyWide ns)
theorem anyS_packs (nss : List (List Int)) : anyS (packs nss) = anyWide nss.flatten := by
  induction nss with
  | nil => rfl
  | cons ns nss ih =>
    show (anyWide ns || anyS (packs nss)) = _
    rw [List.flatten_cons, anyWide_append, ih]
theorem join_parts (any : Bool) (nss : List (List Int)) (hv : ∀ ns ∈ nss, okChars ns) (h : anyWide nss.flatten = true → any = true) : (packs nss).flatMap (partS any) = if any = true then nss.flatten.flatMap be4 else nss.flatten.map u8of := by
  induction nss with
  | nil => cases any <;> rfl
  | cons ns nss ih =>
    rw [List.flatten_cons, anyWide_append] at h
    show partS any (packL ns, anyWide ns) ++ (packs nss).flatMap (partS any) = _
    rw [part_pack ns any (hv ns (List.mem_cons_self ..)) (fun e => h (by rw [e]; rfl)), ih (fun x hx => hv x (List.mem_cons_of_mem _ hx)) (fun e => h (by rw [e, Bool.or_true])), List.flatten_cons]
    cases any
    · rw [if_neg (by simp), if_neg (by simp), if_neg (by simp), List.map_append]
    · rw [if_pos rfl, if_pos rfl, if_pos rfl, List.flatMap_append]
theorem joinL_packs (nss : List (List Int)) (hv : ∀ ns ∈ nss, okChars ns) : joinL (packs nss) = packL nss.flatten := by
  unfold joinL
  rw [anyS_packs, join_parts _ nss hv (fun e => e)]
  rfl
theorem sumS_packs (nss : List (List Int)) : sumS (packs nss) = nss.flatten.length := by
  induction nss with
  | nil => rfl
  | cons ns nss ih =>
    show lenS (packL ns) (anyWide ns) + sumS (packs nss) = _
    rw [ih, packL_len, List.flatten_cons, List.length_append]
theorem anyWide_sub {a b : List Int} (h : ∀ c ∈ a, c ∈ b) (hb : anyWide b = false) : anyWide a = false := by
  unfold anyWide at hb ⊢
  rw [List.any_eq_false] at hb ⊢
  exact fun c hc => hb c (h c hc)
theorem okChars_sub {a b : List Int} (h : ∀ c ∈ a, c ∈ b) (hb : okChars b) : okChars a := fun c hc => hb c (h c hc)
theorem part_sub (ns : List Int) (i j : Nat) : ∀ c ∈ (ns.take j).drop i, c ∈ ns := fun _ hc => List.mem_of_mem_take (List.mem_of_mem_drop hc)
theorem slice_pack (ns : List Int) (i j : Int) (hv : okChars ns) (h0 : 0 ≤ i) (h1 : i ≤ j) (h2 : j ≤ ns.length) : sliceS (packL ns) (anyWide ns) i j = .tuple [strV ((ns.take j.toNat).drop i.toNat), .int .i64 0] := by
  unfold sliceS
  rw [packL_len, if_neg (by omega)]
  cases hw : anyWide ns with
  | true => rw [if_pos rfl, ← hw, packed_chars ns hv]
  | false =>
    rw [if_neg (by simp)]
    unfold strV
    have hs := anyWide_sub (part_sub ns i.toNat j.toNat) hw
    rw [hs, packL_narrow hs, packL_narrow hw, List.map_drop, List.map_take]
theorem setL_ok (ns : List Int) (i : Nat) (c : Int) (hv : okChars ns) (hc : isC c = true) : okChars (setL ns i c) := by
  intro x hx
  unfold setL at hx
  simp only [List.mem_append, List.mem_singleton] at hx
  rcases hx with (hx | rfl) | hx
  · exact hv x (List.mem_of_mem_take hx)
  · exact hc
  · exact hv x (List.mem_of_mem_drop hx)
theorem set_pack (ns : List Int) (i c : Int) (hv : okChars ns) (h0 : 0 ≤ i) (h1 : i ≤ ns.length) (hn : ns.length < 65536) (hc : isC c = true) : setS (packL ns) (anyWide ns) i c = .tuple [strV (setL ns i.toNat c), .int .i64 0] := by
  unfold setS
  rw [packL_len, if_neg (by omega), if_neg (by simp [hc]), if_neg (by omega), packed_chars ns hv]
end Go.Proofs.YthlibdhjcjangaaDoor
