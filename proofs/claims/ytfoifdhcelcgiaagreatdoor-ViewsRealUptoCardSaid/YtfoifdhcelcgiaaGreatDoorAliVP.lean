/-
  What the guard 'alive' of the views' laws does, by the law of a set.
-/
import Derived.Test.YtfoifdhcelcgiaaGreatDoorJl
import Derived.Test.YtfoifdhcelcgiaaGreatDoorMem
namespace Go.Proofs.YtfoifdhcelcgiaaGreatDoor
open Go

def opV1 : OpV := ⟨⟨1, [107], [120], zeroId⟩, 0, 1, []⟩
def opV2 : OpV := ⟨⟨2, [107], [120], zeroId⟩, 0, 1, []⟩
def nmV1 : List UInt8 := [112, 18, 148, 150, 250, 46, 204, 198, 175, 54, 251, 9, 136, 191, 252, 90, 37, 213, 64, 214, 188, 239, 164, 38, 164, 131, 91, 7, 26, 151, 187, 144]
def nmV2 : List UInt8 := [205, 47, 196, 81, 19, 186, 110, 93, 145, 189, 155, 28, 248, 22, 177, 105, 5, 29, 28, 29, 217, 31, 60, 198, 68, 122, 25, 220, 87, 216, 91, 251]
set_option maxRecDepth 100000 in
theorem v1_sha : shaF (listB [[111, 112], opV1.text]) = nmV1 := by decide +kernel
set_option maxRecDepth 100000 in
theorem v2_sha : shaF (listB [[111, 112], opV2.text]) = nmV2 := by decide +kernel
theorem v1_eq : nameB opV1 = nmV1 := (shaF_eq _).symm.trans v1_sha
theorem v2_eq : nameB opV2 = nmV2 := (shaF_eq _).symm.trans v2_sha
theorem v12_ne : nameB opV1 ≠ nameB opV2 := by
  rw [v1_eq, v2_eq]
  decide
theorem opV1_good : opV1.Good := ⟨by decide, by decide, by decide, by decide, by decide, by decide, fun i x y h => by simp [opV1] at h⟩
theorem opV2_good : opV2.Good := ⟨by decide, by decide, by decide, by decide, by decide, by decide, fun i x y h => by simp [opV2] at h⟩
def setV : List NOp := [(nameB opV1, opV1), (nameB opV2, opV2)]
theorem lv1 : takeD ⟨[], []⟩ opV1 = (⟨[(nameB opV1, opV1)], []⟩, [nameB opV1], 0) := by
  unfold takeD
  rw [if_pos opV1_good]
  rfl
theorem lv2 : takeD ⟨[(nameB opV1, opV1)], []⟩ opV2 = (⟨setV, []⟩, [nameB opV2], 0) := by
  have hb : hasN [(nameB opV1, opV1)] (nameB opV2) = false := by
    simp only [hasN, List.any_cons, List.any_nil, Bool.or_false, decide_eq_false_iff_not]
    exact v12_ne
  unfold takeD
  rw [if_pos opV2_good, if_neg (by rw [hb]; decide), if_neg (by decide), if_pos (by decide)]
  rfl
theorem lv_nopred (n x : Nm) : x ∉ predsAt setV n := fun h => by
  obtain ⟨o, ho, hx⟩ := pred_op h
  have h1 := opAt_some ho
  simp only [setV, List.mem_cons, List.not_mem_nil, or_false, Prod.mk.injEq] at h1
  rcases h1 with ⟨_, rfl⟩ | ⟨_, rfl⟩ <;> simp [opV1, opV2] at hx
theorem lv_noanc (n x : Nm) : ¬ Anc setV n x := fun h => by
  cases h with
  | step h1 => exact lv_nopred _ _ h1
  | more _ h1 => exact lv_nopred _ _ h1
theorem lv_mem {K : List Tx} (h : MemV setV [107] K) : ascL K = [[120]] := by
  have hs : (setV.filter (pickO [107] [1])).map (·.2.d.value) = [[120]] := by simp [setV, pickO, opV1, opV2]
  have hp : (((rowL setV).filter (pickO [107] [1])).map (·.2.d.value)).Perm ((setV.filter (pickO [107] [1])).map (·.2.d.value)) := ((rowL_perm setV).filter _).map _
  rw [hs] at hp
  rw [h.all lv_noanc, List.perm_singleton.1 hp]
  exact strict_unique (ascL_strict _) (by simp) (fun x => ascL_mem)
end Go.Proofs.YtfoifdhcelcgiaaGreatDoor
