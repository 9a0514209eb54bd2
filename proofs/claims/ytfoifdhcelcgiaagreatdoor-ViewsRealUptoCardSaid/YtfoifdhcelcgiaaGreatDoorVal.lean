/-
  views.Value: the last that was put into a register.
-/
import Derived.Test.YtfoifdhcelcgiaaGreatDoorLineOf
namespace Go.Proofs.YtfoifdhcelcgiaaGreatDoor
open Go Go.RowKit

/-- the last one's value; is there one? -/
def lastV (L : List NOp) : Tx × Bool := ((L.getLast?.map fun e => (e.2.d.value, true))).getD ([], false)
theorem lastV_nil : lastV [] = ([], false) := rfl
theorem lastV_at {L : List NOp} {e : NOp} (h : L[L.length - 1]? = some e) : lastV L = (e.2.d.value, true) := by
  unfold lastV
  rw [List.getLast?_eq_getElem?, h]
  rfl
theorem OpV.cs_two (o : OpV) (p : Option Addr) (c : Nat) : (o.cs p c)[2]? = some (txt o.d.value) := rfl
theorem src_three (w : World) (t : TypeId) : Src (w.alloc (.cells #[.int .i64 3] t)) (some ⟨w.heap.size, 0, none⟩) ([3].map (Value.int .i64)) := ⟨fun j u hj => ⟨w.heap.size, 0, rfl, by
  rw [Nat.zero_add, World.cell?_alloc_new]
  simpa using hj⟩⟩
set_option maxRecDepth 100000 in
set_option maxHeartbeats 8000000 in
theorem value_any (key : Tx) (b mo mw mt : Nat) (B : Nat → Prop) (O W : List E3) (T : List (Nm × Nat)) (w : World) (h : DagSet w b mo mw mt B O W T) (hI : DInv ⟨O.map E3.ent, W.map E3.ent⟩) (hL : O.length ≤ 1000) :
    Calls Tryz.prog 29 #[.pointer (some ⟨b, 0, none⟩), txt key] w fun e w' => e = .returned (.tuple #[txt (lastV ((rowL (O.map E3.ent)).filter (pickO key [3]))).1, .bool (lastV ((rowL (O.map E3.ent)).filter (pickO key [3]))).2]) ∧ Below w.heap.size w w' := by
  have HB1 := Lib.hid (show Below w.heap.size w (w.alloc (.cells #[.int .i64 3] 3)) from (Below.refl _ w).alloc (Nat.le_refl _) _)
  have HOF := Lib.hid (lineOf_any key [3] (some ⟨w.heap.size, 0, none⟩) 1 b mo mw mt B O W T (w.alloc (.cells #[.int .i64 3] 3)) (h.under HB1.out) hI (by omega) (src_three w _) (by simp))
  obtain ⟨L, hL0⟩ : ∃ L, L = (rowL (O.map E3.ent)).filter (pickO key [3]) := ⟨_, rfl⟩
  have hLl : L.length ≤ 1000 := by
    have h2 := List.length_filter_le (pickO key [3]) (rowL (O.map E3.ent))
    rw [rowL_length, List.length_map, ← hL0] at h2
    omega
  rw [← hL0] at HOF
  rw [← hL0]
  clear h hI hL0
  go_enter Tryz.func29, Tryz.ntmps29
  go_upto_region 2 with (go_at_call 18; refine HOF.out.mono ?_; rintro e w3 ⟨vR, R, BR, rfl, hRE, hRO⟩; obtain ⟨pR, cR, hpR⟩ := hRO.own.form; subst hpR)
  have HB := Lib.hid (HB1.out.trans (hRO.below.mono HB1.out.size))
  have hRl : R.length = L.length := by rw [← hRE, List.length_map]
  by_cases h0 : R.length = 0
  · have hR0 : R = [] := List.eq_nil_of_length_eq_zero h0
    subst hR0
    have hLe : L = [] := by rw [← hRE]; rfl
    clear hRE hRO hRl hLl
    subst hLe
    go_wp2
    go_ret2
    exact ⟨rfl, HB.out⟩
  · have hne : ((R.length : Int) == 0) = false := beq_eq_false_iff_ne.2 (by omega)
    obtain ⟨m, hm⟩ : ∃ m, R.length = m + 1 := ⟨R.length - 1, by omega⟩
    obtain ⟨ex, gx, ox, hx1, _, hx3, hpx, hx4⟩ := op_at hRO.own.srcOf.at_ hRO.cs38 (show m < R.length by omega)
    subst hpx
    have HLV := Lib.hid (show lastV L = (ex.o.d.value, true) from by
      refine lastV_at (e := ex.ent) ?_
      rw [← hRE, List.length_map, show R.length - 1 = m by omega, List.getElem?_map, hx1]
      rfl)
    have hcv : w3.cell? ⟨gx, ox + (R.length - 1) * 38 + 2, none⟩ = some (txt ex.o.d.value) := by
      rw [show R.length - 1 = m by omega]
      exact hx4 2 _ (OpV.cs_two ex.o ex.p ex.c)
    have hRb : R.length ≤ 1000 := by omega
    have hpos : 0 < R.length := by omega
    obtain ⟨xv, hxv⟩ : ∃ y, y = ex.o.d.value := ⟨_, rfl⟩
    rw [← hxv] at hcv HLV
    clear hRE hRO hx1 hx3 hx4 hxv h0 hm hRl hLl
    go_wp2
    go_ret2
    rw [HLV.out]
    exact ⟨rfl, HB.out⟩
end Go.Proofs.YtfoifdhcelcgiaaGreatDoor
