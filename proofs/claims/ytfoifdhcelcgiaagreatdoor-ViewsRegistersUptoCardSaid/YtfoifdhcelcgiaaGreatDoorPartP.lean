/-
  Two kinds of a row put together: the plain law of LineParts.
-/
import Derived.Test.YtfoifdhcelcgiaaGreatDoorLineK
namespace Go.Proofs.YtfoifdhcelcgiaaGreatDoor
open Go Go.RowKit

theorem filter_at {α : Type} {x : List α} {p : α → Bool} {n : Nat} {o : α} (ho : x[n]? = some o) (hp : p o = true) : (x.filter p)[((x.take n).filter p).length]? = some o := by
  obtain ⟨hn, hx⟩ := List.getElem?_eq_some_iff.1 ho
  have h : x.filter p = (x.take n).filter p ++ o :: (x.drop (n + 1)).filter p := by
    have h1 := List.take_append_drop n x
    rw [List.drop_eq_getElem_cons hn, hx] at h1
    have h2 := congrArg (List.filter p) h1
    rw [List.filter_append, List.filter_cons, if_pos hp] at h2
    exact h2.symm
  rw [h, List.getElem?_append_right (Nat.le_refl _), Nat.sub_self]
  rfl
theorem filter_succ {α : Type} {x : List α} {p : α → Bool} {n : Nat} {o : α} (ho : x[n]? = some o) : (x.take (n + 1)).filter p = (x.take n).filter p ++ (if p o then [o] else []) := by
  rw [List.take_add_one, ho, List.filter_append]
  cases h : p o <;> simp [h]
theorem filter_lt {α : Type} {x : List α} {p : α → Bool} {n : Nat} : ((x.take n).filter p).length ≤ (x.filter p).length := ((List.take_sublist n x).filter p).length_le
theorem keysL_pair (l : List NOp) (a b : Int) : keysL l [a, b] = ascL (keysL l [a] ++ keysL l [b]) := by
  have h : keysL l [a, b] = ascL (keysL l [a, b]) := by
    unfold keysL
    exact (ascL_self (ascL_strict _)).symm
  rw [h]
  refine ascL_of_mem fun x => ?_
  rw [List.mem_append, keysL_mem, keysL_mem, keysL_mem]
  have hp : ∀ e : NOp, pickK [a, b] e = (pickK [a] e || pickK [b] e) := fun e => by
    unfold pickK
    rw [Bool.eq_iff_iff]
    simp
  constructor
  · rintro ⟨e, he, h1, h2⟩
    rw [hp, Bool.or_eq_true] at h1
    exact h1.elim (fun h => .inl ⟨e, he, h, h2⟩) (fun h => .inr ⟨e, he, h, h2⟩)
  · rintro (⟨e, he, h1, h2⟩ | ⟨e, he, h1, h2⟩)
    · exact ⟨e, he, by rw [hp, h1]; rfl, h2⟩
    · exact ⟨e, he, by rw [hp, h1, Bool.or_true], h2⟩
end Go.Proofs.YtfoifdhcelcgiaaGreatDoor
