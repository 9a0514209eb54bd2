/-
  Texts, rising, each once, put one by one where they belong.
-/
import Derived.Test.YtfoifdhcelcgiaaGreatDoorStr
namespace Go.Proofs.YtfoifdhcelcgiaaGreatDoor
open Go Go.RowKit

theorem ris_has {T L : List Tx} {s : Tx} (hL : L = ascL T) {k : Nat} (h : L[k]? = some s) : ascL (T ++ [s]) = L := by
  rw [hL]
  refine ascL_of_mem fun x => ?_
  have hm : s ∈ T := ascL_mem.1 (hL ▸ List.mem_of_getElem? h)
  simp only [List.mem_append, List.mem_singleton]
  constructor
  · rintro (h1 | rfl)
    · exact h1
    · exact hm
  · exact .inl
theorem ris_put {T L : List Tx} {s : Tx} (hL : L = ascL T) {k : Nat} (h1 : ∀ (j : Nat) (x : Tx), j < k → L[j]? = some x → x < s) (h2 : ∀ x, L[k]? = some x → s < x) : ascL (T ++ [s]) = L.take k ++ [s] ++ L.drop k := by
  have hst : L.Pairwise (· < ·) := by rw [hL]; exact ascL_strict T
  have hlow : ∀ x ∈ L.take k, x < s := fun x hx => by
    obtain ⟨j, hj⟩ := List.mem_iff_getElem?.1 hx
    have hjl := (List.getElem?_eq_some_iff.1 hj).1
    rw [List.length_take] at hjl
    rw [List.getElem?_take_of_lt (by omega)] at hj
    exact h1 j x (by omega) hj
  have hhigh : ∀ x ∈ L.drop k, s < x := fun x hx => by
    obtain ⟨j, hj⟩ := List.mem_iff_getElem?.1 hx
    rw [List.getElem?_drop] at hj
    obtain ⟨hjl, hjx⟩ := List.getElem?_eq_some_iff.1 hj
    have hk : k < L.length := by omega
    have h3 := h2 L[k] (List.getElem?_eq_getElem hk)
    rcases Nat.eq_zero_or_pos j with rfl | hp
    · have e : L[k] = x := by
        rw [← hjx]
        congr 1
      rw [← e]; exact h3
    · have h4 := List.pairwise_iff_getElem.1 hst k (k + j) hk hjl (by omega)
      rw [hjx] at h4
      exact List.lt_trans h3 h4
  refine strict_unique (ascL_strict _) ?_ fun x => ?_
  · rw [List.append_assoc, List.pairwise_append]
    refine ⟨hst.sublist (List.take_sublist _ _), ?_, fun x hx y hy => ?_⟩
    · rw [List.singleton_append, List.pairwise_cons]
      exact ⟨hhigh, hst.sublist (List.drop_sublist _ _)⟩
    · rw [List.singleton_append] at hy
      rcases List.mem_cons.1 hy with rfl | hy
      · exact hlow x hx
      · exact List.lt_trans (hlow x hx) (hhigh y hy)
  · have e : x ∈ T ↔ x ∈ L.take k ++ L.drop k := by rw [List.take_append_drop, hL, ascL_mem]
    rw [ascL_mem, List.mem_append, e]
    simp only [List.mem_append, List.mem_singleton]
    constructor
    · rintro ((h | h) | h)
      · exact .inl (.inl h)
      · exact .inr h
      · exact .inl (.inr h)
    · rintro ((h | h) | h)
      · exact .inl (.inl h)
      · exact .inr h
      · exact .inl (.inr h)
end Go.Proofs.YtfoifdhcelcgiaaGreatDoor
