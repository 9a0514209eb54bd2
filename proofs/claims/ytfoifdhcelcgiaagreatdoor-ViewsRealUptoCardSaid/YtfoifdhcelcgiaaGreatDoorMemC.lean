/-
  Is what was added dropped by one that knew it: the closure of views.Members.
-/
import Derived.Test.YtfoifdhcelcgiaaGreatDoorIdX
import Derived.Test.YtfoifdhcelcgiaaGreatDoorLineOf
namespace Go.Proofs.YtfoifdhcelcgiaaGreatDoor
open Go Go.RowKit

set_option maxRecDepth 100000 in
set_option maxHeartbeats 8000000 in
theorem memclo_any (b mo mw mt : Nat) (B : Nat → Prop) (O W : List E3) (T : List (Nm × Nat)) (nm : Nm) (hnm : nm.length = 32) (xo : OpV) (xp : Option Addr) (xc : Nat) (ko ks kn : Nat) (e : E3) (w : World) (h : DagSet w b mo mw mt B O W T) (hI : DInv ⟨O.map E3.ent, W.map E3.ent⟩) (hL : O.length ≤ 1000) (hT : Tabs w)
    (hO : cellsAt w ko 0 (xo.cs xp xc)) (hko : ko < w.heap.size) (hs : w.cell? ⟨ks, 0, none⟩ = some (.pointer (some ⟨b, 0, none⟩))) (hN : cellsAt w kn 0 (bcs nm)) (hkn : kn < w.heap.size) (hE : e.o.Ok) (hsrc : Src w e.p (pcs e.o.preds)) :
    Calls Tryz.prog 55 (#[.agg e.cs.toArray] ++ #[.pointer (some ⟨ko, 0, none⟩), .pointer (some ⟨ks, 0, none⟩), .pointer (some ⟨kn, 0, none⟩)]) w fun e' w' => ∃ bb : Bool, e' = .returned (.bool bb) ∧ (bb = true → Anc (O.map E3.ent) (nameB e.o) nm) ∧ Below w.heap.size w w' := by
  obtain ⟨hz, hid⟩ := info_two idInfo
  have HI := Lib.hid hid
  have H38 := Lib.hid (OpV.cs_length hE e.p e.c)
  obtain ⟨w1, hw1⟩ : ∃ w1, w1 = w.alloc (.cells e.cs.toArray 46) := ⟨_, rfl⟩
  have hb1 : Below w.heap.size w w1 := by rw [hw1]; exact (Below.refl _ w).alloc (Nat.le_refl _) _
  have HB1 := Lib.hid hb1
  have hk1 : w.heap.size < w1.heap.size := by rw [hw1]; simp
  have hC : cellsAt w1 w.heap.size 0 e.cs := by rw [hw1]; simpa using cellsAt_new w e.cs.toArray 46
  have HC := Lib.hid (show cellsAt w1 w.heap.size 0 (e.o.cs e.p e.c) from hC)
  have HV := Lib.hid (OpV.cs_kind (o := e.o) (p := e.p) (c := e.c) hC).2.2
  have HVO := Lib.hid (OpV.cs_kind (hO.of_block (hb1.block _ hko))).2.2
  have hksl : ks < w.heap.size := World.block_lt_of_cell? w _ hs
  have HKS := Lib.hid ((hb1.cell (p := ⟨ks, 0, none⟩) hksl).trans hs)
  have HKN := Lib.hid (hN.of_block (hb1.block _ hkn))
  have HD := Lib.hid (h.under hb1)
  have HIN := Lib.hid hI
  have HT1 := Lib.hid (hT.of_below hb1 hT.2.2)
  have HE := Lib.hid hE
  have HSR := Lib.hid (hsrc.below hb1 (Nat.le_refl _))
  have HNM := Lib.hid hnm
  obtain ⟨k1, hk1e⟩ : ∃ k, k = w.heap.size := ⟨_, rfl⟩
  rw [← hk1e] at HC HV
  have hko1 : ko < w1.heap.size := by omega
  have hks1 : ks < w1.heap.size := by omega
  have hkn1 : kn < w1.heap.size := by omega
  have hk11 : k1 < w1.heap.size := by omega
  obtain ⟨eo, heo⟩ : ∃ y, y = e.o := ⟨_, rfl⟩
  obtain ⟨ep, hep⟩ : ∃ y, y = e.p := ⟨_, rfl⟩
  obtain ⟨ec, hec⟩ : ∃ y, y = e.c := ⟨_, rfl⟩
  rw [← heo] at H38 HC HV HE HSR
  rw [← hep] at H38 HC HSR
  rw [← hec] at H38 HC
  rw [← heo]
  obtain ⟨xv, hxv⟩ : ∃ y, y = xo.d.value := ⟨_, rfl⟩
  obtain ⟨ev, hev⟩ : ∃ y, y = eo.d.value := ⟨_, rfl⟩
  rw [← hxv] at HVO
  rw [← hev] at HV
  clear hb1 hz hid hC hO hs hN h hI hT hE hsrc hnm heo hep hec hxv hev hko hksl hkn
  show Calls Tryz.prog 55 #[.agg e.cs.toArray, .pointer (some ⟨ko, 0, none⟩), .pointer (some ⟨ks, 0, none⟩), .pointer (some ⟨kn, 0, none⟩)] w _
  go_enter Tryz.func55, Tryz.ntmps55
  go_upto_region 1 with (refine wpList_boxAgg _ rfl 46 _ rfl e.cs.toArray (by rfl) ?_)
  rw [← hw1, ← hk1e]
  rw [← hk1e] at hk1
  clear hw1 hk1e
  by_cases hv : ev = xv
  · subst hv
    obtain ⟨NV, hNVa, hNVb⟩ : ∃ n, w1.heap.size ≤ n ∧ n ≤ w1.heap.size := ⟨_, Nat.le_refl _, Nat.le_refl _⟩
    refine wp_region_noPanic ?_
    refine wp_region_till 14 (fun w' => Below NV w1 w') (by kernel_rfl) (by kernel_rfl) ?_
    obtain ⟨wV, hwV⟩ : ∃ wQQ, wQQ = w1.drew := ⟨_, rfl⟩
    have hSwV : Below NV w1 wV := by rw [hwV]; exact (Below.refl NV w1).drew
    rw [← hwV]
    have HSV := Lib.hid hSwV
    have hzwV : w1.heap.size ≤ wV.heap.size := by rw [hwV]; exact Nat.le_refl _
    clear hwV hSwV
    go_simp
    refine Till.pure 0 rfl rfl (by kernel_rfl) (NoPanic.noFrame _) HSV.out ?_
    go_big_quiet_step (fail)
    refine wpQuiet_nil ?_
    refine Till.pure 1 rfl rfl (by kernel_rfl) (NoPanic.noFrame _) HSV.out ?_
    go_big_quiet_step (fail)
    refine wpQuiet_nil ?_
    refine Till.load 2 9 _ ⟨k1, 2, none⟩ (txt ev) rfl rfl rfl rfl (by kernel_rfl) (NoPanic.noFrame _) HSV.out (fun w' hw' => run_loadVar_one Tryz.underlying9 rfl ((hw'.cell (p := ⟨k1, 2, none⟩) (by show k1 < _; omega)).trans HV.out)) ?_
    go_simp
    refine Till.pure 3 rfl rfl (by kernel_rfl) (NoPanic.noFrame _) HSV.out ?_
    go_big_quiet_step (fail)
    refine wpQuiet_nil ?_
    refine Till.pure 4 rfl rfl (by kernel_rfl) (NoPanic.noFrame _) HSV.out ?_
    go_big_quiet_step (fail)
    refine wpQuiet_nil ?_
    refine Till.load 5 9 _ ⟨ko, 2, none⟩ (txt ev) rfl rfl rfl rfl (by kernel_rfl) (NoPanic.noFrame _) HSV.out (fun w' hw' => run_loadVar_one Tryz.underlying9 rfl ((hw'.cell (p := ⟨ko, 2, none⟩) (by show ko < _; omega)).trans HVO.out)) ?_
    go_simp
    refine Till.pure 6 rfl rfl (by kernel_rfl) (NoPanic.noFrame _) HSV.out ?_
    go_big_quiet_step (fail)
    refine wpQuiet_nil ?_
    refine Till.pure 7 rfl rfl (by kernel_rfl) (NoPanic.noFrame _) HSV.out ?_
    go_big_quiet_step (fail)
    refine wpQuiet_nil ?_
    refine Till.load 8 24 _ ⟨ks, 0, none⟩ (.pointer (some ⟨b, 0, none⟩)) rfl rfl rfl rfl (by kernel_rfl) (NoPanic.noFrame _) HSV.out (fun w' hw' => run_loadVar_one Tryz.underlying24 rfl ((hw'.cell (p := ⟨ks, 0, none⟩) (by show ks < _; omega)).trans HKS.out)) ?_
    go_simp
    refine Till.load 9 46 _ ⟨k1, 0, none⟩ (.agg (eo.cs ep ec).toArray) rfl rfl rfl rfl (by kernel_rfl) (NoPanic.noFrame _) HSV.out (fun w' hw' => run_loadAgg Tryz.underlying46 rfl (by rw [opInfo, H38.out]) (HC.out.of_block (hw'.block _ (by omega)))) ?_
    go_simp
    refine Till.load 12 31 _ ⟨kn, 0, none⟩ (idv nm) rfl rfl rfl rfl (by kernel_rfl) (NoPanic.noFrame _) HSV.out (fun w' hw' => run_loadAgg Tryz.underlying31 rfl (by rw [HI.out, bcs_length, HNM.out]) (HKN.out.of_block (hw'.block _ (by omega)))) ?_
    go_simp
    have HCN := Lib.hid (opname_any eo HE.out ep ec wV (HT1.out.of_below (HSV.out.mono hNVa) HT1.out.2.2) (HSR.out.below HSV.out hNVa))
    have HNE := Lib.hid (show (nameB eo).length = 32 from length_nameB eo)
    refine Till.act 10 rfl rfl (by kernel_rfl) rfl ?_
    intro K hK
    go_wp2_with (go_at_call 53; refine HCN.out.mono ?_; rintro e w2 ⟨rfl, hb2⟩)
    have hz2 := hb2.size
    have hS2 := HSV.out.trans (hb2.mono (by omega))
    refine hK _ _ hS2 ?_
    clear hK K
    go_simp
    have HS2 := Lib.hid hS2
    clear hS2 hb2
    have HCP := Lib.hid (past_any b mo mw mt B O W T (nameB eo) HNE.out w2 (HD.out.under (HS2.out.mono hNVa)) HIN.out hL)
    refine Till.act 11 rfl rfl (by kernel_rfl) rfl ?_
    intro K hK
    go_wp2_with (go_at_call 11; refine HCP.out.mono ?_; rintro e w3 ⟨vS, S, rfl, hSA, hSN, hSl, hoS, hb3⟩; obtain ⟨pS, cS, rfl⟩ := hoS.form)
    have hz3 := hb3.size
    have hS3 := HS2.out.trans (hb3.mono (by omega))
    refine hK _ _ hS3 ?_
    clear hK K
    go_simp
    have HS3 := Lib.hid hS3
    clear hS3 hb3
    obtain ⟨Y, hY⟩ : ∃ Y, Y = nsort S := ⟨_, rfl⟩
    rw [← hY] at hoS
    rw [← hY]
    have HYA := Lib.hid (show ∀ y ∈ Y, Anc (O.map E3.ent) (nameB eo) y from fun y hy => hSA y (by rw [hY] at hy; exact nsort_mem.1 hy))
    have HY32 := Lib.hid (show ∀ y ∈ Y, y.length = 32 from fun y hy => by
      obtain ⟨e3, he3, he4⟩ := List.mem_map.1 ((hasN_mem O y).1 (HIN.out.anc_in (HYA.out y hy)))
      rw [← he4]
      exact (HD.out.okO e3 he3).len)
    have hYl : Y.length ≤ 1000 := by rw [hY, (nsort_perm _).length_eq]; exact hSl
    have HCC := Lib.hid (idcont_any Y pS cS nm HNM.out w3 HY32.out (Owns.srcOf hoS) (by omega))
    clear hSA hSN hSl hoS hY
    refine Till.act 13 rfl rfl (by kernel_rfl) rfl ?_
    intro K hK
    go_wp2_with (go_at_call 56; refine HCC.out.mono ?_; rintro e w4 ⟨bb, rfl, hbb, hb4⟩)
    have hz4 := hb4.size
    have hS4 := HS3.out.trans (hb4.mono (by omega))
    refine hK _ _ hS4 ?_
    clear hK K
    go_simp
    have HS4 := Lib.hid hS4
    clear hS4 hb4
    refine Till.tail _ rfl rfl (by kernel_rfl) (by kernel_rfl) ?_
    have HFIN := Lib.hid (HB1.out.trans ((HS4.out.mono hNVa).mono HB1.out.size))
    have HBB := Lib.hid hbb
    clear hbb
    go_wp2
    refine NoPanic.normal ?_
    go_wp2
    go_ret
    exact ⟨bb, rfl, fun h => HYA.out nm (HBB.out h), HFIN.out⟩
  · have hne1 : (ev == xv) = false := beq_eq_false_iff_ne.2 hv
    have hne2 : ((⟨ev.toArray⟩ : ByteArray).toList == (⟨xv.toArray⟩ : ByteArray).toList) = false := by
      rw [ByteArray.toList_eq, ByteArray.toList_eq, beq_eq_false_iff_ne]
      exact hv
    clear hv
    obtain ⟨NV, hNVa, hNVb⟩ : ∃ n, w1.heap.size ≤ n ∧ n ≤ w1.heap.size := ⟨_, Nat.le_refl _, Nat.le_refl _⟩
    refine wp_region_noPanic ?_
    refine wp_region_till 14 (fun w' => Below NV w1 w') (by kernel_rfl) (by kernel_rfl) ?_
    obtain ⟨wV, hwV⟩ : ∃ wQQ, wQQ = w1.drew := ⟨_, rfl⟩
    have hSwV : Below NV w1 wV := by rw [hwV]; exact (Below.refl NV w1).drew
    rw [← hwV]
    have HSV := Lib.hid hSwV
    have hzwV : w1.heap.size ≤ wV.heap.size := by rw [hwV]; exact Nat.le_refl _
    clear hwV hSwV
    go_simp
    refine Till.pure 0 rfl rfl (by kernel_rfl) (NoPanic.noFrame _) HSV.out ?_
    go_big_quiet_step (fail)
    refine wpQuiet_nil ?_
    refine Till.pure 1 rfl rfl (by kernel_rfl) (NoPanic.noFrame _) HSV.out ?_
    go_big_quiet_step (fail)
    refine wpQuiet_nil ?_
    refine Till.load 2 9 _ ⟨k1, 2, none⟩ (txt ev) rfl rfl rfl rfl (by kernel_rfl) (NoPanic.noFrame _) HSV.out (fun w' hw' => run_loadVar_one Tryz.underlying9 rfl ((hw'.cell (p := ⟨k1, 2, none⟩) (by show k1 < _; omega)).trans HV.out)) ?_
    go_simp
    refine Till.pure 3 rfl rfl (by kernel_rfl) (NoPanic.noFrame _) HSV.out ?_
    go_big_quiet_step (fail)
    refine wpQuiet_nil ?_
    refine Till.pure 4 rfl rfl (by kernel_rfl) (NoPanic.noFrame _) HSV.out ?_
    go_big_quiet_step (fail)
    refine wpQuiet_nil ?_
    refine Till.load 5 9 _ ⟨ko, 2, none⟩ (txt xv) rfl rfl rfl rfl (by kernel_rfl) (NoPanic.noFrame _) HSV.out (fun w' hw' => run_loadVar_one Tryz.underlying9 rfl ((hw'.cell (p := ⟨ko, 2, none⟩) (by show ko < _; omega)).trans HVO.out)) ?_
    go_simp
    refine Till.pure 6 rfl rfl (by kernel_rfl) (NoPanic.noFrame _) HSV.out ?_
    go_big_quiet_step (fail)
    refine wpQuiet_nil ?_
    refine Till.pure 7 rfl rfl (by kernel_rfl) (NoPanic.noFrame _) HSV.out ?_
    go_big_quiet_step (fail)
    refine wpQuiet_nil ?_
    refine Till.pass 8 rfl (by rfl) (by kernel_rfl) (NoPanic.noFrame _) HSV.out ?_
    go_simp
    refine Till.pass 9 rfl (by rfl) (by kernel_rfl) (NoPanic.noFrame _) HSV.out ?_
    go_simp
    refine Till.pass 10 rfl (by rfl) (by kernel_rfl) (NoPanic.noFrame _) HSV.out ?_
    go_simp
    refine Till.pass 11 rfl (by rfl) (by kernel_rfl) (NoPanic.noFrame _) HSV.out ?_
    go_simp
    refine Till.pass 12 rfl (by rfl) (by kernel_rfl) (NoPanic.noFrame _) HSV.out ?_
    go_simp
    refine Till.pass 13 rfl (by rfl) (by kernel_rfl) (NoPanic.noFrame _) HSV.out ?_
    go_simp
    refine Till.tail _ rfl rfl (by kernel_rfl) (by kernel_rfl) ?_
    have HFIN := Lib.hid (HB1.out.trans ((HSV.out.mono hNVa).mono HB1.out.size))
    go_wp2
    refine NoPanic.normal ?_
    go_wp2
    go_ret
    exact ⟨_, rfl, fun h => (by cases h), HFIN.out⟩
end Go.Proofs.YtfoifdhcelcgiaaGreatDoor
