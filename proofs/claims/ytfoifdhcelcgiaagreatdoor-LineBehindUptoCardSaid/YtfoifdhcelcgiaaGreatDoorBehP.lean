/-
  The row and what stands ahead of an operation.
-/
import Derived.Test.YtfoifdhcelcgiaaGreatDoorPastP
import Derived.Test.YtfoifdhcelcgiaaGreatDoorLineB
namespace Go.Proofs.YtfoifdhcelcgiaaGreatDoor
open Go Go.RowKit

theorem Src.takeN {w : World} {p : Option Addr} {X : List Nm} (hs : Src w p (pcs X)) (h : ∀ x ∈ X, x.length = 32) (n : Nat) : Src w p (pcs (X.take n)) := by
  have e := (pcs_take h n).symm
  rw [e]
  exact ⟨hs.at_.take _⟩
theorem row_at {l : List NOp} {n : Nat} {x : Nm} (hx : (namesOf (rowL l))[n]? = some x) : ∃ e, (rowL l)[n]? = some e ∧ e.1 = x ∧ e ∈ l := by
  unfold namesOf at hx
  rw [List.getElem?_map] at hx
  cases he : (rowL l)[n]? with
  | none => rw [he] at hx; cases hx
  | some e =>
    rw [he] at hx
    exact ⟨e, rfl, Option.some.inj hx, rowL_mem.1 (List.mem_of_getElem? he)⟩
/-- who stands ahead of an operation stands ahead of it in the row -/
theorem anc_before {s : DS} (h : DInv s) (hb : ∀ e ∈ s.ops, e.2.depth ≤ 9223372036854775807) (hl : s.ops.length ≤ 1000000000) {n : Nat} {x y : Nm} (hx : (namesOf (rowL s.ops))[n]? = some x) (hy : Anc s.ops x y) : y ∈ (namesOf (rowL s.ops)).take n := by
  have hd := h.anc_dep hb hl hy
  have hm := hasN_iff.1 (h.anc_in hy)
  obtain ⟨e, he, rfl⟩ := List.mem_map.1 hm
  obtain ⟨j, hj⟩ := List.mem_iff_getElem?.1 (rowL_mem.2 he)
  obtain ⟨ex, hex, rfl, hexm⟩ := row_at hx
  rw [depAt_in h.nd1 he, depAt_in h.nd1 hexm] at hd
  have hjn : j < n := by
    refine Nat.lt_of_not_le fun hle => ?_
    rcases Nat.lt_or_eq_of_le hle with hlt | heq
    · obtain ⟨hn', hnx⟩ := List.getElem?_eq_some_iff.1 hex
      obtain ⟨hj', hjx⟩ := List.getElem?_eq_some_iff.1 hj
      have h3 := List.pairwise_iff_getElem.1 (rowL_strict h.nd1) n j hn' hj' hlt
      rw [hnx, hjx] at h3
      rcases bef_iff.1 h3 with h4 | h4 <;> omega
    · subst heq
      obtain rfl := Option.some.inj (hex.symm.trans hj)
      omega
  refine List.mem_iff_getElem?.2 ⟨j, ?_⟩
  rw [List.getElem?_take_of_lt hjn]
  unfold namesOf
  rw [List.getElem?_map, hj]
  rfl
theorem nodup_notin {α : Type} [DecidableEq α] {X : List α} (h : X.Nodup) {n : Nat} {x : α} (hx : X[n]? = some x) : x ∉ X.take n := fun hm => by
  obtain ⟨j, hj⟩ := List.mem_iff_getElem?.1 hm
  obtain ⟨hjl, _⟩ := List.getElem?_eq_some_iff.1 hj
  have hjn : j < n := by rw [List.length_take] at hjl; omega
  rw [List.getElem?_take_of_lt hjn] at hj
  obtain ⟨h1, h2⟩ := List.getElem?_eq_some_iff.1 hj
  obtain ⟨h3, h4⟩ := List.getElem?_eq_some_iff.1 hx
  have := (List.pairwise_iff_getElem.1 h) j n h1 h3 hjn
  exact this (h2.trans h4.symm)
end Go.Proofs.YtfoifdhcelcgiaaGreatDoor
