/-
  The guard 'alive' of the views' laws holds.
-/
import Derived.Test.YtfoifdhcelcgiaaGreatDoorAliVP
import Derived.Test.YtfoifdhcelcgiaaGreatDoorLineA
import Derived.Test.YtfoifdhcelcgiaaGreatDoorTSame
namespace Go.Proofs.YtfoifdhcelcgiaaGreatDoor
open Go Go.RowKit

section
variable {P : Program} (w : World) {ops : Array Oper} {rest : List Oper} {o : Oper} {a : Act} {Q : Exit → Act → World → Prop}
theorem wpList_buildThree (hg : o.guard = none) (t : TypeId) (i0 i1 i2 : Nat) (x0 x1 x2 : Operand) (hop : o.op = .build t #[(i0, x0), (i1, x1), (i2, x2)]) (v0 v1 v2 Z : Value) (h0 : a.eval x0 = v0) (h1 : a.eval x1 = v1) (h2 : a.eval x2 = v2)
    (hz : (Instr.build t #[(i0, v0), (i1, v1), (i2, v2)]).run P w = .ok Z w) (h : wpList P ops Q rest (a.put o.dst Z) w) : wpList P ops Q (o :: rest) a w := by
  refine wpList_plain hg fun K' hK' => ?_
  unfold Oper.wp execOp
  simp only [hop, List.map_toArray, List.map_cons, List.map_nil, h0, h1, h2, Sem.run_bind, hz, Result.andThen_ok, Sem.run_pure]
  exact hK' _ _ h
end
def dV1 : Dr := ⟨1, [107], [120], zeroId⟩
def dV2 : Dr := ⟨2, [107], [120], zeroId⟩
theorem build_dV1 (w : World) : (Instr.build 44 #[(0, .int .i64 1), (1, .string ⟨#[107]⟩), (2, .string ⟨#[120]⟩)]).run Tryz.prog w = .ok (drv dV1) w := by kernel_rfl
theorem build_dV2 (w : World) : (Instr.build 44 #[(0, .int .i64 2), (1, .string ⟨#[107]⟩), (2, .string ⟨#[120]⟩)]).run Tryz.prog w = .ok (drv dV2) w := by kernel_rfl
theorem build_opV1 (w : World) : (Instr.build 46 #[(0, drv dV1), (2, .int .i64 1)]).run Tryz.prog w = .ok (.agg (opV1.cs none 0).toArray) w := by kernel_rfl
theorem build_opV2 (w : World) : (Instr.build 46 #[(0, drv dV2), (2, .int .i64 1)]).run Tryz.prog w = .ok (.agg (opV2.cs none 0).toArray) w := by kernel_rfl
theorem dV1_ok : dV1.Ok := ⟨by decide, by decide, rfl, by decide, by decide⟩
theorem dV2_ok : dV2.Ok := ⟨by decide, by decide, rfl, by decide, by decide⟩
theorem opV1_ok : opV1.Ok := ⟨dV1_ok, by decide, by decide, by decide, by decide, by simp [opV1], by decide⟩
theorem opV2_ok : opV2.Ok := ⟨dV2_ok, by decide, by decide, by decide, by decide, by simp [opV2], by decide⟩

set_option maxRecDepth 100000 in
set_option maxHeartbeats 16000000 in
theorem alive12_any (w : World) (hT : Tabs w) : Calls Tryz.prog 25 #[] w fun e w' => e = .returned (.bool true) ∧ Below w.heap.size w w' := by
  have HT := Lib.hid hT
  clear hT
  go_enter Tryz.func25, Tryz.ntmps25
  go_upto_region 2 with (go_at_call 32; refine (dnew_any w).mono ?_; rintro e w1 ⟨b, mo, mw, mt, rfl, hd1, hb1⟩)
  have hz1 := hb1.size
  have HB1 := Lib.hid hb1
  have hm1 : mo < w1.heap.size ∧ mw < w1.heap.size ∧ mt < w1.heap.size ∧ w.heap.size ≤ mo ∧ w.heap.size ≤ mw ∧ w.heap.size ≤ mt := ⟨hd1.ops.lt, hd1.wait.lt, hd1.out.lt, hd1.inB.2.1, hd1.inB.2.2.1, hd1.inB.2.2.2⟩
  have hcl := take_any b mo mw mt _ [] [] [] opV1 opV1_ok none 0 w1 (HT.out.of_below HB1.out HT.out.2.2) hd1.cut DInv.nil (src_none _ _) (by simp) (fun i hi => by have := hi.2; omega)
  simp only [List.map_nil, lv1] at hcl
  have HCL := Lib.hid hcl
  have hkS : ∀ i, threeB mo mw mt i → w.heap.size ≤ i ∧ i < w1.heap.size := fun i hi => by
    rcases hi with rfl | rfl | rfl <;> omega
  clear hd1 hb1 hcl
  go_upto_region 3 with (first
    | (refine wpList_buildThree _ rfl 44 0 1 2 _ _ _ rfl (.int .i64 1) (.string ⟨#[107]⟩) (.string ⟨#[120]⟩) _ (by rfl) (by rfl) (by rfl) (build_dV1 _) ?_)
    | (refine wpList_buildTwo _ rfl 46 0 2 _ _ rfl (drv dV1) (.int .i64 1) _ (by rfl) (by rfl) (build_opV1 _) ?_)
    | (go_at_call 33; refine HCL.out.mono ?_; rintro e w5 ⟨v1, B1, O1, W1, T1, rfl, hO1, hW1, hD1, hBB1, hv1, hk1⟩))
  have hz5 := hk1.size
  have hI1 : DInv ⟨O1.map E3.ent, W1.map E3.ent⟩ := by
    have := DInv.nil.take opV1
    rw [lv1] at this
    rw [hO1, hW1]
    exact this
  have HB5 := Lib.hid (HB1.out.trans (hk1.toBelow (by omega) (fun i hi h => by have := (hkS _ h).1; omega)))
  have hlO : O1.length + W1.length ≤ 900 := by rw [len_ent' hO1, len_ent' hW1]; simp
  have hcl := take_any b mo mw mt B1 O1 W1 T1 opV2 opV2_ok none 0 w5 (HT.out.of_below HB5.out HT.out.2.2) hD1 hI1 (src_none _ _) hlO (fun i hi => (hBB1 i hi).2)
  rw [hO1, hW1] at hcl
  simp only [lv2] at hcl
  have HCL2 := Lib.hid hcl
  have hI2 : DInv ⟨setV, []⟩ := by
    have := hI1.take opV2
    rw [hO1, hW1] at this
    simp only [lv2] at this
    exact this
  have HI2 := Lib.hid hI2
  clear hcl hD1 hI1 hO1 hW1 hBB1 hv1 hk1 hlO hI2
  go_upto_region 4 with (first
    | (refine wpList_buildThree _ rfl 44 0 1 2 _ _ _ rfl (.int .i64 2) (.string ⟨#[107]⟩) (.string ⟨#[120]⟩) _ (by rfl) (by rfl) (by rfl) (build_dV2 _) ?_)
    | (refine wpList_buildTwo _ rfl 46 0 2 _ _ rfl (drv dV2) (.int .i64 1) _ (by rfl) (by rfl) (build_opV2 _) ?_)
    | (go_at_call 33; refine HCL2.out.mono ?_; rintro e w6 ⟨v2, B2, O2, W2, T2, rfl, hO2, hW2, hD2, hBB2, hv2, hk2⟩))
  have hz6 := hk2.size
  have HB6 := Lib.hid (HB5.out.trans (hk2.toBelow (by omega) (fun i hi h => by have := (hkS _ h).1; omega)))
  have HO2 := Lib.hid hO2
  have HIN2 := Lib.hid (show DInv ⟨O2.map E3.ent, W2.map E3.ent⟩ by rw [hO2, hW2]; exact HI2.out)
  have hlO2 : O2.length ≤ 1000 := by rw [len_ent' hO2]; simp [setV]
  have HCM := Lib.hid (members_any [107] b mo mw mt B2 O2 W2 T2 w6 hD2 HIN2.out hlO2 (HT.out.of_below HB6.out HT.out.2.2))
  clear hD2 hO2 hW2 hBB2 hv2 hk2 hkS
  go_upto_region 5 with (go_at_call 27; refine HCM.out.mono ?_; rintro e w7 ⟨p, c, K, rfl, ho, hmv, hb7⟩; have hk : ascL K = [[120]] := lv_mem (by rw [HO2.out] at hmv; exact hmv); rw [hk] at ho; rw [show (ascL K).length = 1 by rw [hk]; rfl])
  obtain ⟨x, g, off, hx1, hxp, hx3, hx4⟩ := scs_at (K := [[120]]) (n := 0) (Owns.srcOf (Owns.of ho)) (by simp)
  subst hxp
  obtain rfl : [120] = x := by simpa using hx1
  have hcx : w7.cell? ⟨g, off, none⟩ = some (.string ⟨#[120]⟩) := hx4
  have HB7 := Lib.hid (HB6.out.trans (hb7.mono HB6.out.size))
  clear ho hmv hb7 hx1 hx4 hk
  go_wp2
  go_ret
  exact ⟨rfl, HB7.out⟩
end Go.Proofs.YtfoifdhcelcgiaaGreatDoor
