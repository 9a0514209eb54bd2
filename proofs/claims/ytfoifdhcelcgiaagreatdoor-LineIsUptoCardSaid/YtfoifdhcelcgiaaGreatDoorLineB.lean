/-
  tribunalref11.Before: does one stand ahead of the other?
-/
import Derived.Test.YtfoifdhcelcgiaaGreatDoorLineP
import Derived.Test.YtfoifdhcelcgiaaGreatDoorJi
import Derived.Test.YtfoifdhcelcgiaaGreatDoorJc
import Derived.Test.YtfoifdhcelcgiaaGreatDoorJb
namespace Go.Proofs.YtfoifdhcelcgiaaGreatDoor
open Go Go.RowKit

def befO (x y : OpV) : Bool := bef (nameB x, x) (nameB y, y)
set_option maxRecDepth 100000 in
set_option maxHeartbeats 8000000 in
theorem before_any (x y : OpV) (hx : x.Ok) (hy : y.Ok) (p q : Option Addr) (c d : Nat) (w : World) (hT : Tabs w) (hs : Src w p (pcs x.preds)) (ht : Src w q (pcs y.preds)) :
    Calls Tryz.prog 34 #[.agg (x.cs p c).toArray, .agg (y.cs q d).toArray] w fun e w' => e = .returned (.bool (befO x y)) ∧ Below w.heap.size w w' := by
  obtain ⟨w1, hw1⟩ : ∃ w1, w1 = (w.alloc (.cells (x.cs p c).toArray 46)).alloc (.cells (y.cs q d).toArray 46) := ⟨_, rfl⟩
  have hb1 : Below w.heap.size w w1 := by rw [hw1]; exact ((Below.refl _ w).alloc (Nat.le_refl _) _).alloc (by simp) _
  have HX := Lib.hid hx
  have HY := Lib.hid hy
  have HS1 := Lib.hid (hs.below hb1 (Nat.le_refl _))
  have HT1 := Lib.hid (ht.below hb1 (Nat.le_refl _))
  have HTB := Lib.hid (hT.of_below hb1 hT.2.2)
  have h3 := hT.2.2
  have hz1 := hb1.size
  have HB1 := Lib.hid hb1
  have HX38 := Lib.hid (OpV.cs_length hx p c)
  have HY38 := Lib.hid (OpV.cs_length hy q d)
  have HCX := Lib.hid (show cellsAt w1 w.heap.size 0 (x.cs p c) by
    rw [hw1]
    exact cellsAt.of_block (by simpa using cellsAt_new w (x.cs p c).toArray 46) ((MapKept.heap_alloc _ _).2 _ (by simp)))
  have HCY := Lib.hid (show cellsAt w1 (w.heap.size + 1) 0 (y.cs q d) by
    rw [hw1]
    simpa using cellsAt_new (w.alloc (.cells (x.cs p c).toArray 46)) (y.cs q d).toArray 46)
  have hzz : w1.heap.size = w.heap.size + 2 := by rw [hw1]; simp
  clear hx hy hs ht hT hb1
  obtain ⟨R, hR⟩ : ∃ R, R = befO x y := ⟨_, rfl⟩
  rw [← hR]
  have HR := Lib.hid hR
  clear hR
  go_enter Tryz.func34, Tryz.ntmps34
  go_upto_region 1 with (first
    | (refine wpList_boxAgg _ rfl 46 _ rfl (x.cs p c).toArray (by rfl) ?_)
    | (refine wpList_boxAgg _ rfl 46 _ rfl (y.cs q d).toArray (by rfl) ?_))
  rw [show (w.alloc (.cells (x.cs p c).toArray 46)).alloc (.cells (y.cs q d).toArray 46) = w1 from hw1.symm]
  try rw [World.size_alloc]
  clear hw1
  by_cases hlt : x.depth < y.depth
  · have hd1 : decide (x.depth < y.depth) = true := decide_eq_true hlt
    obtain rfl : R = true := by rw [HR.out]; exact bef_iff.2 (.inl hlt)
    obtain ⟨NV, hNVa, hNVb⟩ : ∃ n, w1.heap.size ≤ n ∧ n ≤ w1.heap.size := ⟨_, Nat.le_refl _, Nat.le_refl _⟩
    refine wp_region_noPanic ?_
    refine wp_region_till 20 (fun w' => Below NV w1 w') (by kernel_rfl) (by kernel_rfl) ?_
    obtain ⟨wV, hwV⟩ : ∃ wV, wV = w1.drew := ⟨_, rfl⟩
    have hSwV : Below NV w1 wV := by rw [hwV]; exact (Below.refl NV w1).drew
    rw [← hwV]
    have HSV := Lib.hid hSwV
    have hzwV : w1.heap.size ≤ wV.heap.size := by rw [hwV]; exact Nat.le_refl _
    clear hwV hSwV
    go_simp
    refine Till.pure 0 rfl rfl (by kernel_rfl) (NoPanic.noFrame _) HSV.out ?_
    go_big_quiet_step (fail)
    refine wpQuiet_nil ?_
    refine Till.load 1 3 _ ⟨w.heap.size, 36, none⟩ (.int .i64 x.depth) rfl rfl rfl rfl (by kernel_rfl) (NoPanic.noFrame _) HSV.out (fun w' hw' => run_loadVar_one Tryz.underlying3 rfl (OpV.cs_at HX.out (HCX.out.of_block (hw'.block _ (by omega)))).2.1) ?_
    go_simp
    refine Till.pure 2 rfl rfl (by kernel_rfl) (NoPanic.noFrame _) HSV.out ?_
    go_big_quiet_step (fail)
    refine wpQuiet_nil ?_
    refine Till.load 3 3 _ ⟨w.heap.size + 1, 36, none⟩ (.int .i64 y.depth) rfl rfl rfl rfl (by kernel_rfl) (NoPanic.noFrame _) HSV.out (fun w' hw' => run_loadVar_one Tryz.underlying3 rfl (OpV.cs_at HY.out (HCY.out.of_block (hw'.block _ (by omega)))).2.1) ?_
    go_simp
    refine Till.pure 4 rfl rfl (by kernel_rfl) (NoPanic.noFrame _) HSV.out ?_
    go_big_quiet_step (fail)
    refine wpQuiet_nil ?_
    refine Till.pure 5 rfl rfl (by kernel_rfl) (NoPanic.noFrame _) HSV.out ?_
    go_big_quiet_step (fail)
    refine wpQuiet_nil ?_
    refine Till.pass 6 rfl (by rfl) (by kernel_rfl) (NoPanic.noFrame _) HSV.out ?_
    go_simp
    refine Till.pass 7 rfl (by rfl) (by kernel_rfl) (NoPanic.noFrame _) HSV.out ?_
    go_simp
    refine Till.pass 8 rfl (by rfl) (by kernel_rfl) (NoPanic.noFrame _) HSV.out ?_
    go_simp
    refine Till.pass 9 rfl (by rfl) (by kernel_rfl) (NoPanic.noFrame _) HSV.out ?_
    go_simp
    refine Till.pass 10 rfl (by rfl) (by kernel_rfl) (NoPanic.noFrame _) HSV.out ?_
    go_simp
    refine Till.pass 11 rfl (by rfl) (by kernel_rfl) (NoPanic.noFrame _) HSV.out ?_
    go_simp
    refine Till.pass 12 rfl (by rfl) (by kernel_rfl) (NoPanic.noFrame _) HSV.out ?_
    go_simp
    refine Till.pass 13 rfl (by rfl) (by kernel_rfl) (NoPanic.noFrame _) HSV.out ?_
    go_simp
    refine Till.pass 14 rfl (by rfl) (by kernel_rfl) (NoPanic.noFrame _) HSV.out ?_
    go_simp
    refine Till.pass 15 rfl (by rfl) (by kernel_rfl) (NoPanic.noFrame _) HSV.out ?_
    go_simp
    refine Till.pass 16 rfl (by rfl) (by kernel_rfl) (NoPanic.noFrame _) HSV.out ?_
    go_simp
    refine Till.pass 17 rfl (by rfl) (by kernel_rfl) (NoPanic.noFrame _) HSV.out ?_
    go_simp
    refine Till.pass 18 rfl (by rfl) (by kernel_rfl) (NoPanic.noFrame _) HSV.out ?_
    go_simp
    refine Till.pure 19 rfl rfl (by kernel_rfl) (NoPanic.noFrame _) HSV.out ?_
    go_big_quiet_step (fail)
    refine wpQuiet_nil ?_
    refine Till.tail _ rfl rfl (by kernel_rfl) (by kernel_rfl) ?_
    have HFIN := Lib.hid (HB1.out.trans ((HSV.out.mono hNVa).mono hz1))
    go_wp2
    refine NoPanic.normal ?_
    go_wp2
    go_ret
    exact ⟨rfl, HFIN.out⟩
  · have hd1 : decide (x.depth < y.depth) = false := decide_eq_false hlt
    by_cases heq : x.depth = y.depth
    · have hd2 : (x.depth == y.depth) = true := by simp [heq]
      have HRC := Lib.hid (show R = decide (cmpB (nameB x) (nameB y) < 0) by
        rw [HR.out]
        simp [befO, bef, heq])
      obtain ⟨NV, hNVa, hNVb⟩ : ∃ n, w1.heap.size ≤ n ∧ n ≤ w1.heap.size := ⟨_, Nat.le_refl _, Nat.le_refl _⟩
      refine wp_region_noPanic ?_
      refine wp_region_till 20 (fun w' => Below NV w1 w') (by kernel_rfl) (by kernel_rfl) ?_
      obtain ⟨wV, hwV⟩ : ∃ wV, wV = w1.drew := ⟨_, rfl⟩
      have hSwV : Below NV w1 wV := by rw [hwV]; exact (Below.refl NV w1).drew
      rw [← hwV]
      have HSV := Lib.hid hSwV
      have hzwV : w1.heap.size ≤ wV.heap.size := by rw [hwV]; exact Nat.le_refl _
      clear hwV hSwV
      go_simp
      refine Till.pure 0 rfl rfl (by kernel_rfl) (NoPanic.noFrame _) HSV.out ?_
      go_big_quiet_step (fail)
      refine wpQuiet_nil ?_
      refine Till.load 1 3 _ ⟨w.heap.size, 36, none⟩ (.int .i64 x.depth) rfl rfl rfl rfl (by kernel_rfl) (NoPanic.noFrame _) HSV.out (fun w' hw' => run_loadVar_one Tryz.underlying3 rfl (OpV.cs_at HX.out (HCX.out.of_block (hw'.block _ (by omega)))).2.1) ?_
      go_simp
      refine Till.pure 2 rfl rfl (by kernel_rfl) (NoPanic.noFrame _) HSV.out ?_
      go_big_quiet_step (fail)
      refine wpQuiet_nil ?_
      refine Till.load 3 3 _ ⟨w.heap.size + 1, 36, none⟩ (.int .i64 y.depth) rfl rfl rfl rfl (by kernel_rfl) (NoPanic.noFrame _) HSV.out (fun w' hw' => run_loadVar_one Tryz.underlying3 rfl (OpV.cs_at HY.out (HCY.out.of_block (hw'.block _ (by omega)))).2.1) ?_
      go_simp
      refine Till.pure 4 rfl rfl (by kernel_rfl) (NoPanic.noFrame _) HSV.out ?_
      go_big_quiet_step (fail)
      refine wpQuiet_nil ?_
      refine Till.pure 5 rfl rfl (by kernel_rfl) (NoPanic.noFrame _) HSV.out ?_
      go_big_quiet_step (fail)
      refine wpQuiet_nil ?_
      refine Till.pure 6 rfl rfl (by kernel_rfl) (NoPanic.noFrame _) HSV.out ?_
      go_big_quiet_step (fail)
      refine wpQuiet_nil ?_
      refine Till.load 7 3 _ ⟨w.heap.size, 36, none⟩ (.int .i64 x.depth) rfl rfl rfl rfl (by kernel_rfl) (NoPanic.noFrame _) HSV.out (fun w' hw' => run_loadVar_one Tryz.underlying3 rfl (OpV.cs_at HX.out (HCX.out.of_block (hw'.block _ (by omega)))).2.1) ?_
      go_simp
      refine Till.pure 8 rfl rfl (by kernel_rfl) (NoPanic.noFrame _) HSV.out ?_
      go_big_quiet_step (fail)
      refine wpQuiet_nil ?_
      refine Till.load 9 3 _ ⟨w.heap.size + 1, 36, none⟩ (.int .i64 y.depth) rfl rfl rfl rfl (by kernel_rfl) (NoPanic.noFrame _) HSV.out (fun w' hw' => run_loadVar_one Tryz.underlying3 rfl (OpV.cs_at HY.out (HCY.out.of_block (hw'.block _ (by omega)))).2.1) ?_
      go_simp
      refine Till.pure 10 rfl rfl (by kernel_rfl) (NoPanic.noFrame _) HSV.out ?_
      go_big_quiet_step (fail)
      refine wpQuiet_nil ?_
      refine Till.pure 11 rfl rfl (by kernel_rfl) (NoPanic.noFrame _) HSV.out ?_
      go_big_quiet_step (fail)
      refine wpQuiet_nil ?_
      refine Till.load 12 46 _ ⟨w.heap.size, 0, none⟩ (.agg (x.cs p c).toArray) rfl rfl rfl rfl (by kernel_rfl) (NoPanic.noFrame _) HSV.out (fun w' hw' => run_loadAgg Tryz.underlying46 rfl (by rw [opInfo, HX38.out]) (HCX.out.of_block (hw'.block _ (by omega)))) ?_
      go_simp
      refine Till.load 14 46 _ ⟨w.heap.size + 1, 0, none⟩ (.agg (y.cs q d).toArray) rfl rfl rfl rfl (by kernel_rfl) (NoPanic.noFrame _) HSV.out (fun w' hw' => run_loadAgg Tryz.underlying46 rfl (by rw [opInfo, HY38.out]) (HCY.out.of_block (hw'.block _ (by omega)))) ?_
      go_simp
      refine Till.act 13 rfl rfl (by kernel_rfl) rfl ?_
      intro K hK
      go_wp2_with (go_at_call 17; refine (ropname_any x HX.out p c wV (HTB.out.of_below (HSV.out.mono hNVa) (by omega)) (HS1.out.below HSV.out hNVa)).mono ?_; rintro e wA ⟨rfl, hbA⟩)
      have hzA := hbA.size
      have hSA := HSV.out.trans (hbA.mono (by omega))
      refine hK _ _ hSA ?_
      clear hK K
      go_simp
      have HSA := Lib.hid hSA
      clear hSA hbA
      refine Till.act 15 rfl rfl (by kernel_rfl) rfl ?_
      intro K hK
      go_wp2_with (go_at_call 17; refine (ropname_any y HY.out q d wA (HTB.out.of_below (HSA.out.mono hNVa) (by omega)) (HT1.out.below HSA.out hNVa)).mono ?_; rintro e wB ⟨rfl, hbB⟩)
      have hzB := hbB.size
      have hSB := HSA.out.trans (hbB.mono (by omega))
      refine hK _ _ hSB ?_
      clear hK K
      go_simp
      have HSB := Lib.hid hSB
      clear hSB hbB
      refine Till.act 16 rfl rfl (by kernel_rfl) rfl ?_
      intro K hK
      go_wp2_with (go_at_call 62; refine (refcmp_any (nameB x) (nameB y) (length_nameB x) (length_nameB y) wB).mono ?_; rintro e wC ⟨rfl, hbC⟩)
      have hzC := hbC.size
      have hSC := HSB.out.trans (hbC.mono (by omega))
      refine hK _ _ hSC ?_
      clear hK K
      go_simp
      have HSC := Lib.hid hSC
      clear hSC hbC
      obtain ⟨cv, hcv⟩ : ∃ cv, cv = cmpB (nameB x) (nameB y) := ⟨_, rfl⟩
      have HRD := Lib.hid (show R = decide (cv < 0) by rw [HRC.out, hcv])
      rw [← hcv]
      clear hcv
      refine Till.pure 17 rfl rfl (by kernel_rfl) (NoPanic.noFrame _) HSC.out ?_
      go_big_quiet_step (fail)
      refine wpQuiet_nil ?_
      rw [← HRD.out]
      refine Till.pure 18 rfl rfl (by kernel_rfl) (NoPanic.noFrame _) HSC.out ?_
      go_big_quiet_step (fail)
      refine wpQuiet_nil ?_
      refine Till.pure 19 rfl rfl (by kernel_rfl) (NoPanic.noFrame _) HSC.out ?_
      go_big_quiet_step (fail)
      refine wpQuiet_nil ?_
      refine Till.tail _ rfl rfl (by kernel_rfl) (by kernel_rfl) ?_
      have HFIN := Lib.hid (HB1.out.trans ((HSC.out.mono hNVa).mono hz1))
      go_wp2
      refine NoPanic.normal ?_
      go_wp2
      go_ret
      exact ⟨rfl, HFIN.out⟩
    · have hd2 : (x.depth == y.depth) = false := by simp [heq]
      obtain rfl : R = false := by
        rw [HR.out]
        exact bef_false.2 (.inl (by show y.depth < x.depth; omega))
      obtain ⟨NV, hNVa, hNVb⟩ : ∃ n, w1.heap.size ≤ n ∧ n ≤ w1.heap.size := ⟨_, Nat.le_refl _, Nat.le_refl _⟩
      refine wp_region_noPanic ?_
      refine wp_region_till 20 (fun w' => Below NV w1 w') (by kernel_rfl) (by kernel_rfl) ?_
      obtain ⟨wV, hwV⟩ : ∃ wV, wV = w1.drew := ⟨_, rfl⟩
      have hSwV : Below NV w1 wV := by rw [hwV]; exact (Below.refl NV w1).drew
      rw [← hwV]
      have HSV := Lib.hid hSwV
      have hzwV : w1.heap.size ≤ wV.heap.size := by rw [hwV]; exact Nat.le_refl _
      clear hwV hSwV
      go_simp
      refine Till.pure 0 rfl rfl (by kernel_rfl) (NoPanic.noFrame _) HSV.out ?_
      go_big_quiet_step (fail)
      refine wpQuiet_nil ?_
      refine Till.load 1 3 _ ⟨w.heap.size, 36, none⟩ (.int .i64 x.depth) rfl rfl rfl rfl (by kernel_rfl) (NoPanic.noFrame _) HSV.out (fun w' hw' => run_loadVar_one Tryz.underlying3 rfl (OpV.cs_at HX.out (HCX.out.of_block (hw'.block _ (by omega)))).2.1) ?_
      go_simp
      refine Till.pure 2 rfl rfl (by kernel_rfl) (NoPanic.noFrame _) HSV.out ?_
      go_big_quiet_step (fail)
      refine wpQuiet_nil ?_
      refine Till.load 3 3 _ ⟨w.heap.size + 1, 36, none⟩ (.int .i64 y.depth) rfl rfl rfl rfl (by kernel_rfl) (NoPanic.noFrame _) HSV.out (fun w' hw' => run_loadVar_one Tryz.underlying3 rfl (OpV.cs_at HY.out (HCY.out.of_block (hw'.block _ (by omega)))).2.1) ?_
      go_simp
      refine Till.pure 4 rfl rfl (by kernel_rfl) (NoPanic.noFrame _) HSV.out ?_
      go_big_quiet_step (fail)
      refine wpQuiet_nil ?_
      refine Till.pure 5 rfl rfl (by kernel_rfl) (NoPanic.noFrame _) HSV.out ?_
      go_big_quiet_step (fail)
      refine wpQuiet_nil ?_
      refine Till.pure 6 rfl rfl (by kernel_rfl) (NoPanic.noFrame _) HSV.out ?_
      go_big_quiet_step (fail)
      refine wpQuiet_nil ?_
      refine Till.load 7 3 _ ⟨w.heap.size, 36, none⟩ (.int .i64 x.depth) rfl rfl rfl rfl (by kernel_rfl) (NoPanic.noFrame _) HSV.out (fun w' hw' => run_loadVar_one Tryz.underlying3 rfl (OpV.cs_at HX.out (HCX.out.of_block (hw'.block _ (by omega)))).2.1) ?_
      go_simp
      refine Till.pure 8 rfl rfl (by kernel_rfl) (NoPanic.noFrame _) HSV.out ?_
      go_big_quiet_step (fail)
      refine wpQuiet_nil ?_
      refine Till.load 9 3 _ ⟨w.heap.size + 1, 36, none⟩ (.int .i64 y.depth) rfl rfl rfl rfl (by kernel_rfl) (NoPanic.noFrame _) HSV.out (fun w' hw' => run_loadVar_one Tryz.underlying3 rfl (OpV.cs_at HY.out (HCY.out.of_block (hw'.block _ (by omega)))).2.1) ?_
      go_simp
      refine Till.pure 10 rfl rfl (by kernel_rfl) (NoPanic.noFrame _) HSV.out ?_
      go_big_quiet_step (fail)
      refine wpQuiet_nil ?_
      refine Till.pure 11 rfl rfl (by kernel_rfl) (NoPanic.noFrame _) HSV.out ?_
      go_big_quiet_step (fail)
      refine wpQuiet_nil ?_
      refine Till.pass 12 rfl (by rfl) (by kernel_rfl) (NoPanic.noFrame _) HSV.out ?_
      go_simp
      refine Till.pass 13 rfl (by rfl) (by kernel_rfl) (NoPanic.noFrame _) HSV.out ?_
      go_simp
      refine Till.pass 14 rfl (by rfl) (by kernel_rfl) (NoPanic.noFrame _) HSV.out ?_
      go_simp
      refine Till.pass 15 rfl (by rfl) (by kernel_rfl) (NoPanic.noFrame _) HSV.out ?_
      go_simp
      refine Till.pass 16 rfl (by rfl) (by kernel_rfl) (NoPanic.noFrame _) HSV.out ?_
      go_simp
      refine Till.pass 17 rfl (by rfl) (by kernel_rfl) (NoPanic.noFrame _) HSV.out ?_
      go_simp
      refine Till.pure 18 rfl rfl (by kernel_rfl) (NoPanic.noFrame _) HSV.out ?_
      go_big_quiet_step (fail)
      refine wpQuiet_nil ?_
      refine Till.pure 19 rfl rfl (by kernel_rfl) (NoPanic.noFrame _) HSV.out ?_
      go_big_quiet_step (fail)
      refine wpQuiet_nil ?_
      refine Till.tail _ rfl rfl (by kernel_rfl) (by kernel_rfl) ?_
      have HFIN := Lib.hid (HB1.out.trans ((HSV.out.mono hNVa).mono hz1))
      go_wp2
      refine NoPanic.normal ?_
      go_wp2
      go_ret
      exact ⟨rfl, HFIN.out⟩
end Go.Proofs.YtfoifdhcelcgiaaGreatDoor
