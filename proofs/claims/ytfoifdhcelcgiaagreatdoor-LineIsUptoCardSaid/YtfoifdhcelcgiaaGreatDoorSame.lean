/-
  tribunalref09.Same: two operations are the same.
-/
import Derived.Test.YtfoifdhcelcgiaaGreatDoorJe
namespace Go.Proofs.YtfoifdhcelcgiaaGreatDoor
open Go Go.RowKit

theorem preds_eq_of {X Y : List Nm} (hl : X.length = Y.length) (h : ∀ j, j < X.length → X[j]? = Y[j]?) : X = Y := by
  apply List.ext_getElem? 
  intro i
  rcases Nat.lt_or_ge i X.length with h1 | h1
  · exact h i h1
  · rw [List.getElem?_eq_none h1, List.getElem?_eq_none (by omega)]

set_option maxRecDepth 100000 in
set_option maxHeartbeats 8000000 in
theorem same_any (a b : OpV) (ha : a.Ok) (hb : b.Ok) (pa pb : Option Addr) (ca cb : Nat) (w : World) (hsa : Src w pa (pcs a.preds)) (hsb : Src w pb (pcs b.preds)) :
    Calls Tryz.prog 23 #[.agg (a.cs pa ca).toArray, .agg (b.cs pb cb).toArray] w fun e w' => e = .returned (.bool (decide (a = b))) ∧ Below w.heap.size w w' := by
  obtain ⟨hz, hid⟩ := info_two idInfo
  have HI := Lib.hid hid
  have HA := Lib.hid ha
  have HB := Lib.hid hb
  have hla := ha.len
  have hlb := hb.len
  obtain ⟨XA, hXA⟩ : ∃ X, X = a.cs pa ca := ⟨_, rfl⟩
  obtain ⟨XB, hXB⟩ : ∃ X, X = b.cs pb cb := ⟨_, rfl⟩
  rw [← hXA, ← hXB]
  obtain ⟨w1, hw1⟩ : ∃ w1, w1 = (w.alloc (.cells XA.toArray 46)).alloc (.cells XB.toArray 46) := ⟨_, rfl⟩
  have hb1 : Below w.heap.size w w1 := by rw [hw1]; exact ((Below.refl _ w).alloc (Nat.le_refl _) _).alloc (by simp) _
  have HCA := Lib.hid (show cellsAt w1 w.heap.size 0 (a.cs pa ca) by
    rw [hw1, ← hXA]
    exact cellsAt.of_block (by simpa using cellsAt_new w XA.toArray 46) ((MapKept.heap_alloc _ _).2 _ (by simp)))
  have HCB := Lib.hid (show cellsAt w1 (w.heap.size + 1) 0 (b.cs pb cb) by
    rw [hw1, ← hXB]
    simpa using cellsAt_new (w.alloc (.cells XA.toArray 46)) XB.toArray 46)
  have hlt : w.heap.size + 1 < w1.heap.size := by rw [hw1]; simp
  have HB1 := Lib.hid hb1
  have HSA := Lib.hid (hsa.below hb1 (Nat.le_refl _))
  have HSB := Lib.hid (hsb.below hb1 (Nat.le_refl _))
  clear hb1 hz hid ha hb hsa hsb hXA hXB
  go_enter Tryz.func23, Tryz.ntmps23
  go_upto_region 1 with (first
    | (refine wpList_boxAgg _ rfl 46 _ rfl XA.toArray (by rfl) ?_)
    | (refine wpList_boxAgg _ rfl 46 _ rfl XB.toArray (by rfl) ?_))
  rw [← hw1]
  clear hw1
  obtain ⟨ka, hka⟩ : ∃ k, k = w.heap.size := ⟨_, rfl⟩
  obtain ⟨kb, hkb⟩ : ∃ k, k = w.heap.size + 1 := ⟨_, rfl⟩
  try rw [World.size_alloc]
  have hkab : ka < kb := by omega
  rw [← hkb] at HCB hlt
  rw [← hka] at HCA
  try rw [← hkb]
  try rw [← hka]
  clear hka hkb
  have k1 := (OpV.cs_at HA.out HCA.out).1
  have k2 := (OpV.cs_at HA.out HCA.out).2.1
  have k3 := (OpV.cs_at HA.out HCA.out).2.2
  have l1 := (OpV.cs_at HB.out HCB.out).1
  have l2 := (OpV.cs_at HB.out HCB.out).2.1
  have l3 := (OpV.cs_at HB.out HCB.out).2.2
  have HDA := Lib.hid (Dr.cs_length HA.out.d)
  have HDB := Lib.hid (Dr.cs_length HB.out.d)
  have HAD := Lib.hid (show cellsAt w1 ka 0 a.d.cs from OpV.cs_d HCA.out)
  have HBD := Lib.hid (show cellsAt w1 (kb) 0 b.d.cs from OpV.cs_d HCB.out)
  by_cases e1 : a.d = b.d
  · have q1 : decide (a.d = b.d) = true := decide_eq_true e1
    have E1 := Lib.hid e1
    clear e1
    by_cases e2 : a.author = b.author
    · have q2 : (a.author != b.author) = false := by simp [e2]
      have E2 := Lib.hid e2
      clear e2
      by_cases e3 : a.depth = b.depth
      · have q3 : (a.depth != b.depth) = false := by simp [e3]
        have E3' := Lib.hid e3
        clear e3
        by_cases e4 : a.preds.length = b.preds.length
        · have q4 : ((a.preds.length : Int) != (b.preds.length : Int)) = false := by simp [e4]
          have E4 := Lib.hid e4
          clear e4
          go_upto_region 3 with (first
              | (refine wpList_loadAgg _ rfl 44 _ rfl _ Tryz.underlying44 rfl ka 0 (by rfl) a.d.cs (by rw [draftInfo, HDA.out]) HAD.out ?_)
              | (refine wpList_loadAgg _ rfl 44 _ rfl _ Tryz.underlying44 rfl (kb) 0 (by rfl) b.d.cs (by rw [draftInfo, HDB.out]) HBD.out ?_)
              | (refine wpList_neDr rfl _ _ _ rfl a.d b.d (by rfl) (by rfl) HA.out.d HB.out.d ?_))
          clear q1 q2 q3 q4
          go_wp2_with fail
          clear k1 k2 k3 l1 l2 l3
          go_loopw [37] (fun i wr => ∃ n : Nat, n ≤ a.preds.length ∧ i = .int .i64 n ∧ Hid (∀ j, j < n → a.preds[j]? = b.preds[j]?) ∧ Hid (Below w1.heap.size w1 wr)) (fun i _ => a.preds.length - (intOf i).toNat)
          case atStart => exact ⟨0, by omega, rfl, Lib.hid (fun j h => absurd h (by omega)), Lib.hid (Below.refl _ _)⟩
          case round =>
            obtain ⟨n, hn2, rfl, hso, hbr⟩ := hrel
            have hszr := hbr.out.size
            have HAR := Lib.hid (show cellsAt wr ka 0 (a.cs pa ca) from HCA.out.of_block (hbr.out.block _ (by omega)))
            have HBR := Lib.hid (show cellsAt wr (kb) 0 (b.cs pb cb) from HCB.out.of_block (hbr.out.block _ (by omega)))
            by_cases hlt2 : n < a.preds.length
            · have hlt3 : n < b.preds.length := by have := E4.out; omega
              obtain ⟨x, g0, off, hx1, _, hx3, hp0, hx4⟩ := pred_at (HSA.out.below hbr.out (Nat.le_refl _)).at_ HA.out.ids hlt2
              obtain ⟨y, g1, off1, hy1, _, hy3, hp1, hy4⟩ := pred_at (HSB.out.below hbr.out (Nat.le_refl _)).at_ HB.out.ids hlt3
              subst hp0 hp1
              have HX1 := Lib.hid hx1
              have HY1 := Lib.hid hy1
              have HX3 := Lib.hid hx3
              have HY3 := Lib.hid hy3
              have HX4 := Lib.hid hx4
              have HY4 := Lib.hid hy4
              clear hx1 hy1 hx3 hy3 hx4 hy4
              go_upto_region 6 with fail
              refine wp_region_noPanic ?_
              refine wp_region_till 10 (fun w' => cellsAt w' ka 0 (a.cs (some ⟨g0, off, none⟩) ca) ∧ cellsAt w' (kb) 0 (b.cs (some ⟨g1, off1, none⟩) cb) ∧ cellsAt w' g0 (off + n * 32) (bcs x) ∧ cellsAt w' g1 (off1 + n * 32) (bcs y)) (by kernel_rfl) (by kernel_rfl) ?_
              obtain ⟨wA, hwA⟩ : ∃ wA, wA = wr.drew := ⟨_, rfl⟩
              have HSS := Lib.hid (show cellsAt wA ka 0 (a.cs (some ⟨g0, off, none⟩) ca) ∧ cellsAt wA (kb) 0 (b.cs (some ⟨g1, off1, none⟩) cb) ∧ cellsAt wA g0 (off + n * 32) (bcs x) ∧ cellsAt wA g1 (off1 + n * 32) (bcs y) by rw [hwA]; exact ⟨HAR.out, HBR.out, HX4.out, HY4.out⟩)
              have HBA := Lib.hid (show Below w1.heap.size w1 wA by rw [hwA]; exact hbr.out.drew)
              rw [← hwA]
              clear hwA
              go_simp
              refine Till.pure 0 rfl rfl (by kernel_rfl) (NoPanic.noFrame _) HSS.out ?_
              go_big_quiet_step (fail)
              refine wpQuiet_nil ?_
              refine Till.load 1 28 _ ⟨ka, 37, none⟩ (.slice (some ⟨g0, off, none⟩) a.preds.length ca) rfl rfl rfl rfl (by kernel_rfl) (NoPanic.noFrame _) HSS.out (fun w' hw' => run_loadVar_one Tryz.underlying28 rfl (OpV.cs_at HA.out hw'.1).2.2) ?_
              go_simp
              refine Till.pure 2 rfl rfl (by kernel_rfl) (NoPanic.noFrame _) HSS.out ?_
              go_big_quiet_step (fail)
              refine wpQuiet_nil ?_
              refine Till.pure 3 rfl rfl (by kernel_rfl) (NoPanic.noFrame _) HSS.out ?_
              go_big_quiet_step (fail)
              refine wpQuiet_nil ?_
              refine Till.load 4 31 _ ⟨g0, off + n * 32, none⟩ (idv x) rfl rfl rfl rfl (by kernel_rfl) (NoPanic.noFrame _) HSS.out (fun w' hw' => run_loadAgg Tryz.underlying31 rfl (by rw [HI.out, bcs_length, HX3.out]) hw'.2.2.1) ?_
              go_simp
              refine Till.pure 5 rfl rfl (by kernel_rfl) (NoPanic.noFrame _) HSS.out ?_
              go_big_quiet_step (fail)
              refine wpQuiet_nil ?_
              refine Till.load 6 28 _ ⟨kb, 37, none⟩ (.slice (some ⟨g1, off1, none⟩) b.preds.length cb) rfl rfl rfl rfl (by kernel_rfl) (NoPanic.noFrame _) HSS.out (fun w' hw' => run_loadVar_one Tryz.underlying28 rfl (OpV.cs_at HB.out hw'.2.1).2.2) ?_
              go_simp
              refine Till.pure 7 rfl rfl (by kernel_rfl) (NoPanic.noFrame _) HSS.out ?_
              go_big_quiet_step (fail)
              refine wpQuiet_nil ?_
              refine Till.pure 8 rfl rfl (by kernel_rfl) (NoPanic.noFrame _) HSS.out ?_
              go_big_quiet_step (fail)
              refine wpQuiet_nil ?_
              refine Till.load 9 31 _ ⟨g1, off1 + n * 32, none⟩ (idv y) rfl rfl rfl rfl (by kernel_rfl) (NoPanic.noFrame _) HSS.out (fun w' hw' => run_loadAgg Tryz.underlying31 rfl (by rw [HI.out, bcs_length, HY3.out]) hw'.2.2.2) ?_
              go_simp
              refine Till.tail _ rfl rfl (by kernel_rfl) (by kernel_rfl) ?_
              refine wpList_neId rfl _ _ _ rfl x y (by rfl) (by rfl) HX3.out HY3.out ?_
              by_cases hxy : x = y
              · have HXY := Lib.hid hxy
                have dxy : decide (x = y) = true := decide_eq_true hxy
                clear hxy
                go_wp2
                refine NoPanic.normal ?_
                go_wp2
                go_roundw
                case rel =>
                  refine ⟨n + 1, by omega, by go_num, Lib.hid ?_, HBA⟩
                  intro j hj
                  rcases Nat.lt_or_eq_of_le (Nat.le_of_lt_succ hj) with h1 | h1
                  · exact hso.out j h1
                  · subst h1
                    rw [HX1.out, HY1.out, HXY.out]
                case measure => simp [intOf] <;> omega
              · have HXY := Lib.hid hxy
                have dxy : decide (x = y) = false := decide_eq_false hxy
                clear hxy
                go_wp2
                refine NoPanic.normal ?_
                go_wp2
                go_ret
                refine ⟨?_, HB1.out.trans (HBA.out.mono HB1.out.size)⟩
                rw [decide_eq_false (fun e : a = b => HXY.out (by
                  have h1 := HX1.out
                  rw [e, HY1.out] at h1
                  exact (Option.some.inj h1).symm))]
                rfl
            · obtain rfl : n = a.preds.length := by omega
              go_wp2
              go_ret
              refine ⟨?_, HB1.out.trans (hbr.out.mono HB1.out.size)⟩
              rw [decide_eq_true (show a = b from by
                have h := preds_eq_of E4.out hso.out
                cases a
                cases b
                simp only at h
                simp only [OpV.mk.injEq]
                exact ⟨E1.out, E2.out, E3'.out, h⟩)]
              rfl
        · have q4 : ((a.preds.length : Int) != (b.preds.length : Int)) = true := by simp; omega
          go_wp2_with (first
              | (refine wpList_loadAgg _ rfl 44 _ rfl _ Tryz.underlying44 rfl ka 0 (by rfl) a.d.cs (by rw [draftInfo, HDA.out]) HAD.out ?_)
              | (refine wpList_loadAgg _ rfl 44 _ rfl _ Tryz.underlying44 rfl (kb) 0 (by rfl) b.d.cs (by rw [draftInfo, HDB.out]) HBD.out ?_)
              | (refine wpList_neDr rfl _ _ _ rfl a.d b.d (by rfl) (by rfl) HA.out.d HB.out.d ?_))
          go_ret
          exact ⟨by rw [decide_eq_false (fun e => e4 (congrArg (fun o : OpV => o.preds.length) e))]; rfl, HB1.out⟩
      · have q3 : (a.depth != b.depth) = true := by simp [e3]
        go_wp2_with (first
            | (refine wpList_loadAgg _ rfl 44 _ rfl _ Tryz.underlying44 rfl ka 0 (by rfl) a.d.cs (by rw [draftInfo, HDA.out]) HAD.out ?_)
            | (refine wpList_loadAgg _ rfl 44 _ rfl _ Tryz.underlying44 rfl (kb) 0 (by rfl) b.d.cs (by rw [draftInfo, HDB.out]) HBD.out ?_)
            | (refine wpList_neDr rfl _ _ _ rfl a.d b.d (by rfl) (by rfl) HA.out.d HB.out.d ?_))
        go_ret
        exact ⟨by rw [decide_eq_false (fun e => e3 (congrArg OpV.depth e))]; rfl, HB1.out⟩
    · have q2 : (a.author != b.author) = true := by simp [e2]
      go_wp2_with (first
          | (refine wpList_loadAgg _ rfl 44 _ rfl _ Tryz.underlying44 rfl ka 0 (by rfl) a.d.cs (by rw [draftInfo, HDA.out]) HAD.out ?_)
          | (refine wpList_loadAgg _ rfl 44 _ rfl _ Tryz.underlying44 rfl (kb) 0 (by rfl) b.d.cs (by rw [draftInfo, HDB.out]) HBD.out ?_)
          | (refine wpList_neDr rfl _ _ _ rfl a.d b.d (by rfl) (by rfl) HA.out.d HB.out.d ?_))
      go_ret
      exact ⟨by rw [decide_eq_false (fun e => e2 (congrArg OpV.author e))]; rfl, HB1.out⟩
  · have q1 : decide (a.d = b.d) = false := decide_eq_false e1
    go_wp2_with (first
        | (refine wpList_loadAgg _ rfl 44 _ rfl _ Tryz.underlying44 rfl ka 0 (by rfl) a.d.cs (by rw [draftInfo, HDA.out]) HAD.out ?_)
        | (refine wpList_loadAgg _ rfl 44 _ rfl _ Tryz.underlying44 rfl (kb) 0 (by rfl) b.d.cs (by rw [draftInfo, HDB.out]) HBD.out ?_)
        | (refine wpList_neDr rfl _ _ _ rfl a.d b.d (by rfl) (by rfl) HA.out.d HB.out.d ?_))
    go_ret
    exact ⟨by rw [decide_eq_false (fun e => e1 (congrArg OpV.d e))]; rfl, HB1.out⟩
end Go.Proofs.YtfoifdhcelcgiaaGreatDoor
