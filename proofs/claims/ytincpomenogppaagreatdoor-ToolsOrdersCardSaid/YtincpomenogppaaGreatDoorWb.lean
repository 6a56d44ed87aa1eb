/- Contracts of functions that the law reaches. -/
import Derived.Test.YtincpomenogppaaGreatDoorW9
import Derived.Test.YtincpomenogppaaGreatDoorShelf
import Derived.Lib.ItoaLen
set_option linter.unusedSimpArgs false
set_option linter.unusedVariables false
namespace Go.Proofs.YtincpomenogppaaGreatDoor
open Go Go.RowKit Go.Proofs.YtincpomenogppaaGreatDoor Go.Proofs.YtincpomenogppaaGreatDoor.Lift
set_option maxRecDepth 100000

def unE : List (List PV) → Option (List Ed)
  | [] => some []
  | [.int .i64 a, .int .i64 b, .list 1 d, .list 1 n] :: l => match unS d with
    | some d => match unS n with
      | some n => match unE l with
        | some r => some (⟨a, b, d, n⟩ :: r)
        | none => none
      | none => none
    | none => none
  | _ => none
theorem unE_el : ∀ l : List Ed, unE (edL l) = some l
  | [] => rfl
  | x :: l => by
    show (match unS (strL x.del) with | some d => (match unS (strL x.ins) with | some n => (match unE (edL l) with | some r => some ((⟨x.a, x.b, d, n⟩ : Ed) :: r) | none => none) | none => none) | none => none) = _
    rw [unS_el, unS_el, unE_el l]
theorem unE_spec : ∀ {xs : List (List PV)} {l : List Ed}, unE xs = some l → xs = edL l
  | [], l, h => by
    have : [] = l := Option.some.inj h
    subst this; rfl
  | x :: xs, l, h => by
    unfold unE at h
    split at h
    · rename_i e; cases e
    · rename_i a b d n l' e
      injection e with e1 e2
      subst e1 e2
      split at h
      · rename_i d' hd
        split at h
        · rename_i n' hn
          split at h
          · rename_i r hr
            have := Option.some.inj h
            subst this
            rw [unE_spec hr, unS_spec hd, unS_spec hn]
            rfl
          · cases h
        · cases h
      · cases h
    · cases h
end Go.Proofs.YtincpomenogppaaGreatDoor

namespace Go.Proofs.YtincpomenogppaaGreatDoor
open Go Go.RowKit Go.Proofs.YtincpomenogppaaGreatDoor Go.Proofs.YtincpomenogppaaGreatDoor.Lift
set_option maxRecDepth 100000

theorem join_flat : ∀ xs : List (List UInt8), Lib.join xs [] = xs.flatten
  | [] => rfl
  | x :: xs => by
    rw [Lib.join_cons]
    unfold Lib.joinTail
    simp
theorem JoinO_ok {h0 h : Heap} {xs : List (List UInt8)} {v : PV} (ow : Own h0 9 1 (strL xs) v h) (hl : xs.flatten.length ≤ 140737488355328) (hn : xs.length ≤ 140737488355328) : SCalls env 40 [v, .str []] h (Ret (.str xs.flatten) h) := by
  refine SCalls.ofBelow Tryz.func40 rfl rfl fun w I G vs g r => ?_
  obtain ⟨u, us, rfl, hu, u2, us2, rfl, hu2, h3⟩ := r
  have h3 : us2 = [] := h3
  subst h3
  obtain rfl : u2 = .string ⟨#[]⟩ := hu2
  refine ⟨.string ⟨xs.flatten.toArray⟩, fun _ => rfl, ?_⟩
  rcases ow with ⟨rfl, e2, rfl⟩ | ⟨r, cap, rfl, h2, h3, h4, rfl, h6⟩
  · have hx : xs = [] := List.map_eq_nil_iff.1 e2
    subst hx
    obtain ⟨rfl, _⟩ : u = _ ∧ _ := hu
    refine (Tryz.strings_Join_none none 0 ⟨#[]⟩ w).mono ?_
    rintro e w' ⟨he, rfl⟩
    exact ⟨he, Below.refl _ _⟩
  · obtain ⟨rfl, _⟩ : u = _ ∧ _ := hu
    obtain ⟨hr1, _, _, ucs, rest, hc1, hc2, hc3⟩ := g.own r _ (Heap.put_same _ _ _)
    have hj := Tryz.strings_Join r 0 cap (xs.map fun x => (⟨x.toArray⟩ : ByteArray)) ⟨#[]⟩ w (fun j x hx => by
      rw [List.getElem?_map] at hx
      cases e : xs[j]? with
      | none => rw [e] at hx; cases hx
      | some y =>
        rw [e] at hx
        have hx : (⟨y.toArray⟩ : ByteArray) = x := Option.some.inj hx
        subst hx
        have h1 : (strL xs).flatten[j]? = some (.str y) := by rw [strL_flat, List.getElem?_map, e]; rfl
        obtain ⟨uu, hu1, hu2⟩ := hc2.get h1
        obtain rfl : uu = .string ⟨y.toArray⟩ := hu2
        rw [Nat.zero_add]
        exact cell_of_cells hc1 hu1) hr1 (by simpa using hn) (by rw [List.length_map, ← strL_len]; exact h2) (by
        rw [List.map_map]
        have : (xs.map ((fun x : ByteArray => x.data.toList) ∘ fun x => (⟨x.toArray⟩ : ByteArray))) = xs := by
          rw [show ((fun x : ByteArray => x.data.toList) ∘ fun x : List UInt8 => (⟨x.toArray⟩ : ByteArray)) = id from rfl, List.map_id]
        rw [this]
        show (Lib.join xs []).length ≤ _
        rw [join_flat]; exact hl)
    rw [List.length_map] at hj
    have e1 : (xs.map fun x => (⟨x.toArray⟩ : ByteArray)).map (·.data.toList) = xs := by
      rw [List.map_map, show ((fun x : ByteArray => x.data.toList) ∘ fun x : List UInt8 => (⟨x.toArray⟩ : ByteArray)) = id from rfl, List.map_id]
    rw [e1, show (⟨#[]⟩ : ByteArray).data.toList = [] from rfl, join_flat] at hj
    rw [strL_len]
    exact hj
def sItoa : List PV → Prop × PV
  | [.int .i64 n] => (-9223372036854775808 ≤ n ∧ n ≤ 9223372036854775807, .str (Lib.itoa n))
  | _ => PBad
set_option maxRecDepth 100000 in
theorem Itoa_ok (n : Int) (h : Heap) (h0 : -9223372036854775808 ≤ n) (h1 : n ≤ 9223372036854775807) : SCalls env 54 [.int .i64 n] h (Ret (.str (Lib.itoa n)) h) :=
  SCalls.ofBelow Tryz.func54 rfl rfl fun w I G vs g r => by
    obtain ⟨u, us, rfl, hu, hn⟩ := r
    have hn : us = [] := hn
    subst hn
    have hu : u = .int .i64 n := hu
    subst hu
    obtain ⟨t, fr, hw⟩ := gpow (g.inv : gwinv w I)
    have htab : Lib.TabIs Tryz.prog w "internal/strconv.uint64pow10" .u64 Lib.pow10Tab := by
      unfold Lib.TabIs World.var?
      rw [show Tryz.prog.globalNamed "internal/strconv.uint64pow10" = some 3 by kernel_rfl]
      rw [Option.bind_some, hw]
      rfl
    refine ⟨.string ⟨(Lib.itoa n).toArray⟩, fun _ => rfl, (Tryz.strconv_Itoa n h0 h1 w htab).mono ?_⟩
    rintro e w' ⟨he, k, os, rfl⟩
    exact ⟨he, rfl, rfl, rfl, by rw [Go.Sort.size_grow]; exact Nat.le_add_right _ _, fun j hj => Go.Sort.heap_grow_old _ _ hj⟩
noncomputable def eItoa : SpecE env := ⟨54, sItoa, fun args h hc => by
  unfold sItoa at hc ⊢
  split at hc
  · rename_i n; exact .inl (Itoa_ok n h hc.1 hc.2)
  · exact hc.elim⟩
end Go.Proofs.YtincpomenogppaaGreatDoor
