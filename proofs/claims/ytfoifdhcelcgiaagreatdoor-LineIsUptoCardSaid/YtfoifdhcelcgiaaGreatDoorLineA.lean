/-
  The guard 'alive' of the row's laws holds.
-/
import Derived.Test.YtfoifdhcelcgiaaGreatDoorLineAP
import Derived.Test.YtfoifdhcelcgiaaGreatDoorLineB
import Derived.Test.YtfoifdhcelcgiaaGreatDoorJl
namespace Go.Proofs.YtfoifdhcelcgiaaGreatDoor
open Go Go.RowKit

section
variable {P : Program} (w : World) {ops : Array Oper} {rest : List Oper} {o : Oper} {a : Act} {Q : Exit → Act → World → Prop}
theorem wpList_buildTwo (hg : o.guard = none) (t : TypeId) (i0 i1 : Nat) (x0 x1 : Operand) (hop : o.op = .build t #[(i0, x0), (i1, x1)]) (v0 v1 Z : Value) (h0 : a.eval x0 = v0) (h1 : a.eval x1 = v1)
    (hz : (Instr.build t #[(i0, v0), (i1, v1)]).run P w = .ok Z w) (h : wpList P ops Q rest (a.put o.dst Z) w) : wpList P ops Q (o :: rest) a w := by
  refine wpList_plain hg fun K' hK' => ?_
  unfold Oper.wp execOp
  simp only [hop, List.map_toArray, List.map_cons, List.map_nil, h0, h1, Sem.run_bind, hz, Result.andThen_ok, Sem.run_pure]
  exact hK' _ _ h
end
theorem build_opA2 (w : World) : (Instr.build 46 #[(0, drv dA1), (2, .int .i64 1)]).run Tryz.prog w = .ok (.agg (opA2.cs none 0).toArray) w := by kernel_rfl
theorem opA2_ok : opA2.Ok := ⟨dA1_ok, by decide, by decide, by decide, by decide, by simp [opA2], by decide⟩
theorem opA2_A1 : (opA2.cs none 0).toArray.setIfInBounds 35 (.int .i64 1) = (opA1.cs none 0).toArray := by rfl
theorem src_none (w : World) (p : Option Addr) : Src w p (pcs []) := ⟨fun j u h => by simp [pcs] at h⟩

set_option maxRecDepth 100000 in
set_option maxHeartbeats 16000000 in
theorem alive11_any (w : World) (hT : Tabs w) : Calls Tryz.prog 8 #[] w fun e w' => e = .returned (.bool true) ∧ Below w.heap.size w w' := by
  obtain ⟨hzo, hio⟩ := info_two opZero
  have HZO := Lib.hid hzo
  have HT := Lib.hid hT
  have H38A := Lib.hid (OpV.cs_length opA2_ok none 0)
  have H38B := Lib.hid (OpV.cs_length opA1_ok none 0)
  clear hzo hio hT
  go_enter Tryz.func8, Tryz.ntmps8
  go_upto_region 2 with (go_at_call 32; refine (dnew_any w).mono ?_; rintro e w1 ⟨b, mo, mw, mt, rfl, hd1, hb1⟩)
  have hz1 := hb1.size
  have HS1 := Lib.hid hd1.cut
  have HB1 := Lib.hid hb1
  have hm1 : mo < w1.heap.size ∧ mw < w1.heap.size ∧ mt < w1.heap.size ∧ w.heap.size ≤ mo ∧ w.heap.size ≤ mw ∧ w.heap.size ≤ mt := ⟨hd1.ops.lt, hd1.wait.lt, hd1.out.lt, hd1.inB.2.1, hd1.inB.2.2.1, hd1.inB.2.2.2⟩
  clear hd1 hb1
  go_upto_region 3 with (first
    | (refine wpList_buildTwo _ rfl 44 0 1 _ _ rfl (.int .i64 1) (.string ⟨#[107]⟩) _ (by rfl) (by rfl) (build_dA _) ?_)
    | (refine wpList_buildTwo _ rfl 46 0 2 _ _ rfl (drv dA1) (.int .i64 1) _ (by rfl) (by rfl) (build_opA2 _) ?_)
    | (refine wpList_allocZ _ rfl 46 rfl _ HZO.out ?_)
    | (refine wpList_storeNew _ w1 rfl 46 _ _ rfl (zeroOp.cs none 0).toArray rfl (by rfl) (opA2.cs none 0).toArray (by rfl) (by rw [opInfo, List.size_toArray, H38A.out]) (show 38 = (opA2.cs none 0).toArray.size by rw [List.size_toArray, H38A.out]) (by simpa using OpV.cs_one opA2 none 0) ?_))
  obtain ⟨w2, hw2⟩ : ∃ q, q = w1.alloc (.cells (opA2.cs none 0).toArray 46) := ⟨_, rfl⟩
  rw [← hw2]
  obtain ⟨kA, hkA⟩ : ∃ k, k = w1.heap.size := ⟨_, rfl⟩
  rw [← hkA]
  have hb2 : Below w1.heap.size w1 w2 := by rw [hw2]; exact (Below.refl _ w1).alloc (Nat.le_refl _) _
  have hz2 : kA < w2.heap.size := by rw [hw2, hkA]; simp
  have hz12 := hb2.size
  have HRA2 := Lib.hid (show w2.heap[kA]? = some (.cells (opA2.cs none 0).toArray 46 (0, 0)) by rw [hw2, hkA]; exact (MapKept.heap_alloc _ _).1)
  have hk1A : w1.heap.size ≤ kA := by omega
  have HCA2 := Lib.hid (show cellsAt w2 kA 0 (opA2.cs none 0) from fun j u hj => by rw [cell_of_row _ _ _ _ _ _ HRA2.out, Nat.zero_add]; simpa using hj)
  have HB2 := Lib.hid hb2
  clear hw2 hkA hb2
  go_upto_region 4 with (first
    | (refine wpList_loadAgg _ rfl 46 _ rfl _ Tryz.underlying46 rfl kA 0 (by rfl) (opA2.cs none 0) (by rw [opInfo, H38A.out]) HCA2.out ?_)
    | (refine wpList_allocZ _ rfl 46 rfl _ HZO.out ?_)
    | (refine wpList_storeNew _ w2 rfl 46 _ _ rfl (zeroOp.cs none 0).toArray rfl (by rfl) (opA2.cs none 0).toArray (by rfl) (by rw [opInfo, List.size_toArray, H38A.out]) (show 38 = (opA2.cs none 0).toArray.size by rw [List.size_toArray, H38A.out]) (by simpa using OpV.cs_one opA2 none 0) ?_))
  obtain ⟨w3, hw3⟩ : ∃ q, q = w2.alloc (.cells (opA2.cs none 0).toArray 46) := ⟨_, rfl⟩
  rw [← hw3]
  obtain ⟨kB, hkB⟩ : ∃ k, k = w2.heap.size := ⟨_, rfl⟩
  rw [← hkB]
  have hb3 : Below w2.heap.size w2 w3 := by rw [hw3]; exact (Below.refl _ w2).alloc (Nat.le_refl _) _
  have hz3 : kB < w3.heap.size := by rw [hw3, hkB]; simp
  have hz23 := hb3.size
  have hr3 : w3.heap[kB]? = some (.cells (opA2.cs none 0).toArray 46 (0, 0)) := by rw [hw3, hkB]; exact (MapKept.heap_alloc _ _).1
  have hkAB : kA < kB := by omega
  have hc3 := (OpV.cs_at opA2_ok (show cellsAt w3 kB 0 (opA2.cs none 0) from fun j u hj => by rw [cell_of_row _ _ _ _ _ _ hr3, Nat.zero_add]; simpa using hj)).1
  have hf3 : w3.frozen? ⟨kB, 35, none⟩ = false := by simp [World.frozen?, hr3]
  have HB3 := Lib.hid hb3
  have HRB3 := Lib.hid hr3
  clear hw3 hkB hb3 hr3
  go_upto_region 5 with fail
  obtain ⟨w4, hw4⟩ : ∃ q, q = w3.setCell ⟨kB, 35, none⟩ (.int .i64 1) := ⟨_, rfl⟩
  rw [← hw4]
  have HRA4 := Lib.hid (show w4.heap[kA]? = some (.cells (opA2.cs none 0).toArray 46 (0, 0)) by
    rw [hw4]
    exact (Below.heap_setCell _ _ _ _ (fun e => by have e' : kA = kB := e; omega)).trans ((HB3.out.block kA hz2).trans HRA2.out))
  have HRB4 := Lib.hid (show w4.heap[kB]? = some (.cells (opA1.cs none 0).toArray 46 (0, 0)) by
    rw [hw4, setCell_eq_setRow w3 kB 35 _ _ (0, 0) _ HRB3.out, setRow_heap w3 kB _ _ _ (0, 0) HRB3.out, opA2_A1])
  have hb14 : Below w1.heap.size w1 w4 := by
    rw [hw4]
    exact ((HB2.out.trans (HB3.out.mono hz12)).setCell (by show w1.heap.size ≤ kB; omega) _)
  have HB14 := Lib.hid hb14
  have hz4 : w3.heap.size = w4.heap.size := by rw [hw4]; simp [World.setCell]
  have hz14 := hb14.size
  have HS4 := Lib.hid (HS1.out.under hb14)
  have HB4 := Lib.hid (HB1.out.trans (hb14.mono hz1))
  have HCA4 := Lib.hid (show cellsAt w4 kA 0 (opA2.cs none 0) from fun j u hj => by rw [cell_of_row _ _ _ _ _ _ HRA4.out, Nat.zero_add]; simpa using hj)
  clear hw4 hc3 hf3 hb14
  have hcl := take_any b mo mw mt _ [] [] [] opA2 opA2_ok none 0 w4 (HT.out.of_below HB4.out HT.out.2.2) HS4.out DInv.nil (src_none _ _) (by simp) (fun i hi => by have := hi.2; omega)
  simp only [List.map_nil, la1] at hcl
  have HCL := Lib.hid hcl
  clear hcl
  go_upto_region 6 with (first
    | (refine wpList_loadAgg _ rfl 46 _ rfl _ Tryz.underlying46 rfl kA 0 (by rfl) (opA2.cs none 0) (by rw [opInfo, H38A.out]) HCA4.out ?_)
    | (go_at_call 33; refine HCL.out.mono ?_; rintro e w5 ⟨v1, B1, O1, W1, T1, rfl, hO1, hW1, hD1, hBB1, hv1, hk1⟩))
  have hz5 := hk1.size
  have hkS : ∀ i, threeB mo mw mt i → w.heap.size ≤ i ∧ i < w1.heap.size := fun i hi => by
    rcases hi with rfl | rfl | rfl <;> omega
  have hI1 : DInv ⟨O1.map E3.ent, W1.map E3.ent⟩ := by
    have := DInv.nil.take opA2
    rw [la1] at this
    rw [hO1, hW1]
    exact this
  have HRB5 := Lib.hid ((hk1.block kB (by omega) (fun h => by have := (hkS _ h).2; omega)).trans HRB4.out)
  have HB5 := Lib.hid (HB4.out.trans (hk1.toBelow (by omega) (fun i hi h => by have := (hkS _ h).1; omega)))
  have HCB5 := Lib.hid (show cellsAt w5 kB 0 (opA1.cs none 0) from fun j u hj => by rw [cell_of_row _ _ _ _ _ _ HRB5.out, Nat.zero_add]; simpa using hj)
  have hlO : O1.length + W1.length ≤ 900 := by rw [len_ent' hO1, len_ent' hW1]; simp
  have hcl := take_any b mo mw mt B1 O1 W1 T1 opA1 opA1_ok none 0 w5 (HT.out.of_below HB5.out HT.out.2.2) hD1 hI1 (src_none _ _) hlO (fun i hi => (hBB1 i hi).2)
  rw [hO1, hW1] at hcl
  simp only [la2] at hcl
  have HCL2 := Lib.hid hcl
  have hI2 : DInv ⟨setA, []⟩ := by
    have := hI1.take opA1
    rw [hO1, hW1] at this
    simp only [la2] at this
    exact this
  have HI2 := Lib.hid hI2
  clear hcl hD1 hI1 hO1 hW1 hBB1 hv1 hk1 hlO hI2
  go_upto_region 7 with (first
    | (refine wpList_loadAgg _ rfl 46 _ rfl _ Tryz.underlying46 rfl kB 0 (by rfl) (opA1.cs none 0) (by rw [opInfo, H38B.out]) HCB5.out ?_)
    | (go_at_call 33; refine HCL2.out.mono ?_; rintro e w6 ⟨v2, B2, O2, W2, T2, rfl, hO2, hW2, hD2, hBB2, hv2, hk2⟩))
  have hz6 := hk2.size
  have HB6 := Lib.hid (HB5.out.trans (hk2.toBelow (by omega) (fun i hi h => by have := (hkS _ h).1; omega)))
  have HD2 := Lib.hid hD2
  have HO2 := Lib.hid hO2
  have HIN2 := Lib.hid (show DInv ⟨O2.map E3.ent, W2.map E3.ent⟩ by rw [hO2, hW2]; exact HI2.out)
  have hlO2 : O2.length ≤ 1000 := by rw [len_ent' hO2]; simp [setA]
  have HCR := Lib.hid (row_any b mo mw mt B2 O2 W2 T2 w6 hD2 HIN2.out (by omega))
  clear hD2 hO2 hW2 hBB2 hv2 hk2 hkS
  go_upto_region 8 with (go_at_call 16; refine HCR.out.mono ?_; rintro e w7 ⟨vR, R, BR, rfl, hRE, hRO⟩; obtain ⟨pR, cR, hpR⟩ := hRO.own.form; subst hpR)
  have hz7 := hRO.below.size
  have hRl : R.length = 2 := by rw [len_ent' hRE, HO2.out, la_row]
  obtain ⟨x0, x1, hR2⟩ : ∃ x0 x1, R = [x0, x1] := by
    match R, hRl with
    | [x0, x1], _ => exact ⟨x0, x1, rfl⟩
  subst hR2
  have HB7 := Lib.hid (HB6.out.trans (hRO.below.mono HB6.out.size))
  have hst := rowL_strict la_nd
  rw [← HO2.out, ← hRE] at hst
  have hbef : bef x0.ent x1.ent = true := by
    simp only [List.map_cons, List.map_nil, List.pairwise_cons, List.mem_cons, List.not_mem_nil, or_false] at hst
    exact hst.1 _ rfl
  have hnm : ∀ x ∈ [x0, x1], x.n = nameB x.o := fun x hx => by
    have h1 : x.ent ∈ rowL (O2.map E3.ent) := by rw [← hRE]; exact List.mem_map.2 ⟨x, hx, rfl⟩
    exact HIN2.out.named x.ent (List.mem_append.2 (.inl (rowL_mem.1 h1)))
  have HBEF := Lib.hid (show befO x0.o x1.o = true by
    have e0 := hnm x0 (by simp)
    have e1 := hnm x1 (by simp)
    unfold befO
    rw [← e0, ← e1]
    exact hbef)
  have HK0 := Lib.hid (hRO.okR x0 (by simp))
  have HK1 := Lib.hid (hRO.okR x1 (by simp))
  have hsrc := hRO.own.srcOf
  have h38 := hRO.cs38
  obtain ⟨e0, g0, off0, hx0, _, _, hp0, hc0⟩ := op_at hsrc.at_ h38 (show 0 < [x0, x1].length by simp)
  obtain ⟨e1, g1, off1, hx1, _, _, hp1, hc1⟩ := op_at hsrc.at_ h38 (show 1 < [x0, x1].length by simp)
  obtain rfl : x0 = e0 := Option.some.inj hx0
  obtain rfl : x1 = e1 := Option.some.inj hx1
  have hpp := Option.some.inj (hp0.symm.trans hp1)
  simp only [Addr.mk.injEq, and_true] at hpp
  obtain ⟨rfl, rfl⟩ := hpp
  subst hp0
  have hg0 := cellsAt_lt hc0 (by rw [h38 x0 (by simp)]; omega)
  obtain ⟨y0, hy0⟩ : ∃ y, y = x0.o := ⟨_, rfl⟩
  obtain ⟨y1, hy1⟩ : ∃ y, y = x1.o := ⟨_, rfl⟩
  have HC0 := Lib.hid (show cellsAt w7 g0 (off0 + 0 * 38) (y0.cs x0.p x0.c) by rw [hy0]; exact hc0)
  have HC1 := Lib.hid (show cellsAt w7 g0 (off0 + 1 * 38) (y1.cs x1.p x1.c) by rw [hy1]; exact hc1)
  have HY0 := Lib.hid (show y0.Ok ∧ Src w7 x0.p (pcs y0.preds) by rw [hy0]; exact ⟨HK0.out.ok, HK0.out.src⟩)
  have HY1 := Lib.hid (show y1.Ok ∧ Src w7 x1.p (pcs y1.preds) by rw [hy1]; exact ⟨HK1.out.ok, HK1.out.src⟩)
  have HBF := Lib.hid (show befO y0 y1 = true by rw [hy0, hy1]; exact HBEF.out)
  have H380 := Lib.hid (OpV.cs_length HY0.out.1 x0.p x0.c)
  have H381 := Lib.hid (OpV.cs_length HY1.out.1 x1.p x1.c)
  have HD7 := Lib.hid (HD2.out.under hRO.below)
  obtain ⟨p0, hp0⟩ : ∃ y, y = x0.p := ⟨_, rfl⟩
  obtain ⟨c0, hcc0⟩ : ∃ y, y = x0.c := ⟨_, rfl⟩
  obtain ⟨p1, hp1⟩ : ∃ y, y = x1.p := ⟨_, rfl⟩
  obtain ⟨c1, hcc1⟩ : ∃ y, y = x1.c := ⟨_, rfl⟩
  rw [← hp0, ← hcc0] at HC0 H380
  rw [← hp1, ← hcc1] at HC1 H381
  rw [← hp0] at HY0
  rw [← hp1] at HY1
  clear hRE hRO hRl hst hbef hnm HBEF HK0 HK1 hsrc h38 hx0 hx1 hc0 hc1 hy0 hy1 hp0 hp1 hcc0 hcc1
  obtain ⟨NV, hNVa, hNVb⟩ : ∃ n, w7.heap.size ≤ n ∧ n ≤ w7.heap.size := ⟨_, Nat.le_refl _, Nat.le_refl _⟩
  refine wp_region_noPanic ?_
  refine wp_region_till 19 (fun w' => Below NV w7 w') (by kernel_rfl) (by kernel_rfl) ?_
  obtain ⟨wV, hwV⟩ : ∃ wV, wV = w7.drew := ⟨_, rfl⟩
  have hSwV : Below NV w7 wV := by rw [hwV]; exact (Below.refl NV w7).drew
  rw [← hwV]
  have HSV := Lib.hid hSwV
  have hzwV : w7.heap.size ≤ wV.heap.size := by rw [hwV]; exact Nat.le_refl _
  clear hwV hSwV
  go_simp
  refine Till.pure 0 rfl rfl (by kernel_rfl) (NoPanic.noFrame _) HSV.out ?_
  go_big_quiet_step (fail)
  refine wpQuiet_nil ?_
  refine Till.val 1 (.int .i64 ((2 : Nat) : Int)) rfl rfl (by kernel_rfl) (NoPanic.noFrame _) HSV.out (fun w' => exec_len _ _ _ rfl Tryz.underlying35 (some ⟨g0, off0, none⟩) 2 cR (by rfl) w') ?_
  go_simp
  refine Till.pure 2 rfl rfl (by kernel_rfl) (NoPanic.noFrame _) HSV.out ?_
  go_big_quiet_step (fail)
  refine wpQuiet_nil ?_
  refine Till.pure 3 rfl rfl (by kernel_rfl) (NoPanic.noFrame _) HSV.out ?_
  go_big_quiet_step (fail)
  refine wpQuiet_nil ?_
  refine Till.pure 4 rfl rfl (by kernel_rfl) (NoPanic.noFrame _) HSV.out ?_
  go_big_quiet_step (fail)
  refine wpQuiet_nil ?_
  refine Till.pure 5 rfl rfl (by kernel_rfl) (NoPanic.noFrame _) HSV.out ?_
  go_big_quiet_step (fail)
  refine wpQuiet_nil ?_
  refine Till.load 6 46 _ ⟨g0, off0, none⟩ (.agg (y0.cs p0 c0).toArray) rfl rfl rfl rfl (by kernel_rfl) (NoPanic.noFrame _) HSV.out (fun w' hw' => run_loadAgg Tryz.underlying46 rfl (by rw [opInfo, H380.out]) ((show cellsAt w7 g0 off0 (y0.cs p0 c0) by simpa using HC0.out).of_block (hw'.block _ (by omega)))) ?_
  go_simp
  refine Till.pure 7 rfl rfl (by kernel_rfl) (NoPanic.noFrame _) HSV.out ?_
  go_big_quiet_step (fail)
  refine wpQuiet_nil ?_
  refine Till.pure 8 rfl rfl (by kernel_rfl) (NoPanic.noFrame _) HSV.out ?_
  go_big_quiet_step (fail)
  refine wpQuiet_nil ?_
  refine Till.load 9 46 _ ⟨g0, off0 + 38, none⟩ (.agg (y1.cs p1 c1).toArray) rfl rfl rfl rfl (by kernel_rfl) (NoPanic.noFrame _) HSV.out (fun w' hw' => run_loadAgg Tryz.underlying46 rfl (by rw [opInfo, H381.out]) ((show cellsAt w7 g0 (off0 + 38) (y1.cs p1 c1) by simpa using HC1.out).of_block (hw'.block _ (by omega)))) ?_
  go_simp
  have hcb := before_any y0 y1 HY0.out.1 HY1.out.1 p0 p1 c0 c1 wV (HT.out.of_below (HB7.out.trans ((HSV.out.mono hNVa).mono HB7.out.size)) HT.out.2.2) (HY0.out.2.below HSV.out hNVa) (HY1.out.2.below HSV.out hNVa)
  rw [HBF.out] at hcb
  have HCB := Lib.hid hcb
  clear hcb
  refine Till.act 10 rfl rfl (by kernel_rfl) rfl ?_
  intro K hK
  go_wp2_with (go_at_call 34; refine HCB.out.mono ?_; rintro e wA ⟨rfl, hbA⟩)
  have hzA := hbA.size
  have hSA := HSV.out.trans (hbA.mono (by omega))
  refine hK _ _ hSA ?_
  clear hK K
  go_simp
  have HSA := Lib.hid hSA
  clear hSA hbA
  refine Till.pure 11 rfl rfl (by kernel_rfl) (NoPanic.noFrame _) HSA.out ?_
  go_big_quiet_step (fail)
  refine wpQuiet_nil ?_
  refine Till.pure 12 rfl rfl (by kernel_rfl) (NoPanic.noFrame _) HSA.out ?_
  go_big_quiet_step (fail)
  refine wpQuiet_nil ?_
  refine Till.pure 13 rfl rfl (by kernel_rfl) (NoPanic.noFrame _) HSA.out ?_
  go_big_quiet_step (fail)
  refine wpQuiet_nil ?_
  refine Till.act 14 rfl rfl (by kernel_rfl) rfl ?_
  intro K hK
  go_wp2_with fail
  refine hK _ _ (HSA.out.alloc (by omega) _) ?_
  clear hK K
  go_simp
  obtain ⟨wB, hwB⟩ : ∃ q, q = wA.alloc (.cells #[.int .i64 1] 3) := ⟨_, rfl⟩
  rw [← hwB]
  have hSB : Below NV w7 wB := by rw [hwB]; exact HSA.out.alloc (by omega) _
  have HSB := Lib.hid hSB
  have hszB := hSB.size
  have HSI := Lib.hid (show Src wB (some ⟨wA.heap.size, 0, none⟩) ([1].map (Value.int .i64)) from ⟨by rw [hwB]; exact src_new wA [.int .i64 1] 3⟩)
  have HKY := Lib.hid (keys_any [1] (some ⟨wA.heap.size, 0, none⟩) 1 b mo mw mt B2 O2 W2 T2 wB (HD7.out.under (HSB.out.mono hNVa)) HIN2.out (by omega) HSI.out (by decide))
  clear hwB hSB
  refine Till.act 15 rfl rfl (by kernel_rfl) rfl ?_
  intro K hK
  go_wp2_with (go_at_call 21; refine HKY.out.mono ?_; rintro e wC ⟨pK, cK, rfl, _, hbC⟩)
  have hzC := hbC.size
  have hSC := HSB.out.trans (hbC.mono (by omega))
  refine hK _ _ hSC ?_
  clear hK K
  go_simp
  have HSC := Lib.hid hSC
  clear hSC hbC
  have hkl : ((keysL (O2.map E3.ent) [1]).length : Int) = 1 := by rw [HO2.out, la_keys]; rfl
  refine Till.val 16 (.int .i64 (((keysL (O2.map E3.ent) [1]).length : Nat) : Int)) rfl rfl (by kernel_rfl) (NoPanic.noFrame _) HSC.out (fun w' => exec_len _ _ _ rfl Tryz.underlying51 (pK) (keysL (O2.map E3.ent) [1]).length cK (by rfl) w') ?_
  go_simp
  refine Till.pure 17 rfl rfl (by kernel_rfl) (NoPanic.noFrame _) HSC.out ?_
  go_big_quiet_step (fail)
  refine wpQuiet_nil ?_
  refine Till.pure 18 rfl rfl (by kernel_rfl) (NoPanic.noFrame _) HSC.out ?_
  go_big_quiet_step (fail)
  refine wpQuiet_nil ?_
  refine Till.tail _ rfl rfl (by kernel_rfl) (by kernel_rfl) ?_
  have HFIN := Lib.hid (HB7.out.trans ((HSC.out.mono hNVa).mono HB7.out.size))
  go_wp2
  refine NoPanic.normal ?_
  go_wp2
  go_ret
  exact ⟨rfl, HFIN.out⟩
end Go.Proofs.YtfoifdhcelcgiaaGreatDoor
