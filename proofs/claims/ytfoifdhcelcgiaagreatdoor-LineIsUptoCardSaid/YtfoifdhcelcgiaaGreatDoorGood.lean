/-
  GoodDraft by both.
-/
import Derived.Test.YtfoifdhcelcgiaaGreatDoorJc
namespace Go.Proofs.YtfoifdhcelcgiaaGreatDoor
open Go Go.RowKit

def zeroId : List UInt8 := List.replicate 32 0
theorem zeroId_length : zeroId.length = 32 := rfl

def goodD (d : Dr) : Bool :=
  ((decide (1 ≤ d.kind ∧ d.kind ≤ 3) && decide (d.ref = zeroId)) || decide (d.kind = 4) || (decide (d.kind = 5) && !decide (d.ref = zeroId) && decide (d.value = [])))
    && !decide (d.key = []) && decide (d.key.length ≤ 16) && decide (d.value.length ≤ 64)

set_option maxRecDepth 100000 in
set_option maxHeartbeats 4000000 in
theorem goodD_any (d : Dr) (hd : d.Ok) (w : World) :
    Calls Tryz.prog 85 #[drv d] w fun e w' => e = .returned (.bool (goodD d)) ∧ Below w.heap.size w w' := by
  obtain ⟨hz, hid⟩ := info_two idInfo
  have HZ := Lib.hid hz
  have HI := Lib.hid hid
  have HD := Lib.hid hd
  have hat : DrAt (w.alloc (.cells d.cs.toArray 44)) w.heap.size 0 d := by simpa [DrAt] using cellsAt_new w d.cs.toArray 44
  obtain ⟨w1, hw1⟩ : ∃ w1, w1 = w.alloc (.cells d.cs.toArray 44) := ⟨_, rfl⟩
  rw [← hw1] at hat
  have hb : Below w.heap.size w w1 := by rw [hw1]; exact (Below.refl _ w).alloc (Nat.le_refl _) _
  have hc0 : w1.cell? ⟨w.heap.size, 0, none⟩ = some (.int .i64 d.kind) := by simpa using hat.kind
  have hc1 : w1.cell? ⟨w.heap.size, 1, none⟩ = some (txt d.key) := by simpa using hat.key
  have hc2 : w1.cell? ⟨w.heap.size, 2, none⟩ = some (txt d.value) := by simpa using hat.value
  have hcr : cellsAt w1 w.heap.size 3 (bcs d.ref) := fun j u hj => by
    obtain ⟨b, off, e, h⟩ := hat.ref j u hj
    cases e
    simpa using h
  have HB := Lib.hid hb
  have HR := Lib.hid hcr
  clear hat hb hcr hd hz hid
  go_enter Tryz.func85, Tryz.ntmps85
  go_upto_region 1 with (first
    | (refine wpList_boxAgg _ rfl 44 _ rfl d.cs.toArray (by rfl) ?_))
  rw [← hw1]
  clear hw1
  go_upto_region 2 with (first
    | (refine wpList_loadAgg _ rfl 31 _ rfl _ Tryz.underlying31 rfl w.heap.size 3 (by rfl) (bcs d.ref) (by rw [HI.out, bcs_length, HD.out.ref]) HR.out ?_)
    | (refine wpList_neId rfl _ _ _ rfl d.ref zeroId (by rfl) (by rfl) HD.out.ref zeroId_length ?_))
  go_wp2
  all_goals go_ret
  all_goals refine ⟨?_, HB.out⟩
  all_goals refine congrArg (fun b => Ending.returned (Value.bool b)) (?_ : _ = goodD d)
  all_goals clear HZ HI HR hc0 hc1 hc2
  all_goals unfold goodD
  all_goals first | grind | (have hkn : d.key = [] := List.eq_nil_of_length_eq_zero (by omega); grind)
set_option maxRecDepth 100000 in
set_option maxHeartbeats 4000000 in
theorem rgoodD_any (d : Dr) (hd : d.Ok) (w : World) :
    Calls Tryz.prog 87 #[drv d] w fun e w' => e = .returned (.bool (goodD d)) ∧ Below w.heap.size w w' := by
  obtain ⟨hz, hid⟩ := info_two idInfo
  have HZ := Lib.hid hz
  have HI := Lib.hid hid
  have HD := Lib.hid hd
  have hat : DrAt (w.alloc (.cells d.cs.toArray 44)) w.heap.size 0 d := by simpa [DrAt] using cellsAt_new w d.cs.toArray 44
  obtain ⟨w1, hw1⟩ : ∃ w1, w1 = w.alloc (.cells d.cs.toArray 44) := ⟨_, rfl⟩
  rw [← hw1] at hat
  have hb : Below w.heap.size w w1 := by rw [hw1]; exact (Below.refl _ w).alloc (Nat.le_refl _) _
  have hc0 : w1.cell? ⟨w.heap.size, 0, none⟩ = some (.int .i64 d.kind) := by simpa using hat.kind
  have hc1 : w1.cell? ⟨w.heap.size, 1, none⟩ = some (txt d.key) := by simpa using hat.key
  have hc2 : w1.cell? ⟨w.heap.size, 2, none⟩ = some (txt d.value) := by simpa using hat.value
  have hcr : cellsAt w1 w.heap.size 3 (bcs d.ref) := fun j u hj => by
    obtain ⟨b, off, e, h⟩ := hat.ref j u hj
    cases e
    simpa using h
  have HB := Lib.hid hb
  have HR := Lib.hid hcr
  clear hat hb hcr hd hz hid
  go_enter Tryz.func87, Tryz.ntmps87
  go_upto_region 1 with (first
    | (refine wpList_boxAgg _ rfl 44 _ rfl d.cs.toArray (by rfl) ?_))
  rw [← hw1]
  clear hw1
  go_wp2_with (first
    | (refine wpList_loadAgg _ rfl 31 _ rfl _ Tryz.underlying31 rfl w.heap.size 3 (by rfl) (bcs d.ref) (by rw [HI.out, bcs_length, HD.out.ref]) HR.out ?_)
    | (refine wpList_eqId rfl _ _ _ rfl d.ref zeroId (by rfl) (by rfl) HD.out.ref zeroId_length ?_))
  all_goals go_ret
  all_goals refine ⟨?_, HB.out⟩
  all_goals refine congrArg (fun b => Ending.returned (Value.bool b)) (?_ : _ = goodD d)
  all_goals clear HZ HI HR hc0 hc1 hc2
  all_goals unfold goodD
  all_goals first | grind | (have hkn : d.key = [] := List.eq_nil_of_length_eq_zero (by omega); grind)
end Go.Proofs.YtfoifdhcelcgiaaGreatDoor
