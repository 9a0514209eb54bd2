/-
  What the guard 'alive' of the row's laws does, by the law of a set.
-/
import Derived.Test.YtfoifdhcelcgiaaGreatDoorJl
import Derived.Test.YtfoifdhcelcgiaaGreatDoorLineK
namespace Go.Proofs.YtfoifdhcelcgiaaGreatDoor
open Go

def opA2 : OpV := ⟨⟨1, [107], [], zeroId⟩, 0, 1, []⟩
def nmA2 : List UInt8 := [109, 244, 173, 223, 18, 55, 194, 182, 87, 30, 120, 155, 166, 25, 40, 124, 76, 136, 62, 239, 139, 90, 132, 140, 155, 115, 47, 80, 86, 139, 78, 145]
set_option maxRecDepth 100000 in
theorem a2_sha : shaF (listB [[111, 112], opA2.text]) = nmA2 := by decide +kernel
theorem a2_eq : nameB opA2 = nmA2 := (shaF_eq _).symm.trans a2_sha
theorem a21_ne : nameB opA2 ≠ nameB opA1 := by
  rw [a2_eq, a1_eq]
  decide
theorem opA2_good : opA2.Good := ⟨by decide, by decide, by decide, by decide, by decide, by decide, fun i x y h => by simp [opA2] at h⟩
def setA : List NOp := [(nameB opA2, opA2), (nameB opA1, opA1)]
theorem la1 : takeD ⟨[], []⟩ opA2 = (⟨[(nameB opA2, opA2)], []⟩, [nameB opA2], 0) := by
  unfold takeD
  rw [if_pos opA2_good]
  rfl
theorem la2 : takeD ⟨[(nameB opA2, opA2)], []⟩ opA1 = (⟨setA, []⟩, [nameB opA1], 0) := by
  have hb : hasN [(nameB opA2, opA2)] (nameB opA1) = false := by
    simp only [hasN, List.any_cons, List.any_nil, Bool.or_false, decide_eq_false_iff_not]
    exact a21_ne
  unfold takeD
  rw [if_pos opA1_good, if_neg (by rw [hb]; decide), if_neg (by decide), if_pos (by decide)]
  rfl
theorem la_nd : (namesOf setA).Nodup := by
  have h := a21_ne
  simp [namesOf, setA, h]
theorem la_row : (rowL setA).length = 2 := by rw [rowL_length]; rfl
theorem la_keys : (keysL setA [1]).length = 1 := by
  have h : keysL setA [1] = [[107]] := strict_unique (ascL_strict _) (by simp) (fun x => by
    show x ∈ keysL setA [1] ↔ _
    rw [keysL_mem]
    constructor
    · rintro ⟨e, he, _, rfl⟩
      simp only [setA, List.mem_cons, List.not_mem_nil, or_false] at he
      rcases he with rfl | rfl <;> simp [opA2, opA1]
    · intro hx
      rw [List.mem_singleton] at hx
      subst hx
      exact ⟨(nameB opA2, opA2), by simp [setA], by decide, rfl⟩)
  rw [h]
  rfl
end Go.Proofs.YtfoifdhcelcgiaaGreatDoor
