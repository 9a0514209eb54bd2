/-
  DagClosed, walked: what is there is closed.
-/
import Derived.Test.YtfoifdhcelcgiaaDoorJl
namespace Go.Proofs.YtfoifdhcelcgiaaDoor
open Go Go.RowKit

set_option maxRecDepth 100000 in
set_option maxHeartbeats 40000000 in
theorem closed_any (M : List MkV) (hM : ∀ m ∈ M, m.Ok) (p : Option Addr) (cap : Nat) (w : World) (hT : Tabs w) (hs : Src w p (mcs M)) (hps : ∀ m ∈ M, Src w m.p (pcs m.o.preds)) (hMl : M.length ≤ 1000000000) (a : Option Addr) (capz : Nat) (zs : List Int) (hA : IntsAt w a zs) (hzl : zs.length ≤ 9223372036854775807) :
    Calls Tryd.prog 3 #[.slice p M.length cap, .slice a zs.length capz] w fun e w' => e = .returned (.bool true) ∧ Below w.heap.size w w' := by
  obtain ⟨hz, hid⟩ := info_two idInfo
  obtain ⟨hzo, _⟩ := info_two opZero
  have HZ := Lib.hid hz
  have HI := Lib.hid hid
  have HZO := Lib.hid hzo
  have HM := Lib.hid hM
  have HS := Lib.hid hs
  have HPS := Lib.hid hps
  have HT := Lib.hid hT
  have HA := Lib.hid hA
  clear hz hid hzo hM hs hps hT hA
  go_enter Tryd.func3, Tryd.ntmps3
  go_upto_region 3 with (go_at_call 7; refine (alive_any w HT.out).mono ?_; rintro e w1 ⟨rfl, hb1⟩)
  have HB1 := Lib.hid hb1
  have hz1 := hb1.size
  have HCM := Lib.hid (made_any M HM.out p cap w1 (HT.out.of_below hb1 HT.out.2.2) (HS.out.below hb1 (Nat.le_refl _)) (fun m hm => (HPS.out m hm).below hb1 (Nat.le_refl _)) hMl)
  clear hb1
  go_upto_region 4 with (go_at_call 8; refine HCM.out.mono ?_; rintro e w2 ⟨v, L, BL, rfl, hmo⟩; obtain ⟨pv, cv, rfl⟩ := hmo.own.form)
  have HMO := Lib.hid hmo
  have HB2 := Lib.hid (HB1.out.trans (hmo.below.mono hz1))
  have hz2 := hmo.below.size
  have hL30 := hmo.len
  clear hmo
  by_cases h60 : 60 < zs.length
  · have d60 : decide ((zs.length : Int) > 60) = true := decide_eq_true (by omega)
    go_wp2_with fail
    go_ret
    exact ⟨rfl, HB2.out⟩
  · have d60 : decide ((zs.length : Int) > 60) = false := decide_eq_false (by omega)
    by_cases hL0 : L.length = 0
    · have dl0 : ((L.length : Int) == 0) = true := by simp [hL0]
      clear hL0
      go_wp2_with fail
      go_ret
      exact ⟨rfl, HB2.out⟩
    · have dl0 : ((L.length : Int) == 0) = false := beq_eq_false_iff_ne.2 (by omega)
      go_upto_region 7 with (go_at_call 9; refine (dnew_any w2).mono ?_; rintro e w3 ⟨b, mo, mw, mt, rfl, hd3, hb3⟩)
      clear d60 dl0
      have hz3 := hb3.size
      have HD3 := Lib.hid hd3.cut
      have HB3 := Lib.hid hb3
      have hmm : w2.heap.size ≤ mo ∧ w2.heap.size ≤ mw ∧ w2.heap.size ≤ mt := ⟨hd3.inB.2.1, hd3.inB.2.2.1, hd3.inB.2.2.2⟩
      have HL38 := Lib.hid (show ∀ e ∈ L, e.cs.length = 38 from fun e he => OpV.cs_length (HMO.out.okL e he).ok _ _)
      have HOWS := Lib.hid HMO.out.own.srcOf
      clear hd3 hb3
      go_wp2_with fail
      go_loopw [33] (fun i wr => ∃ (n : Nat) (O W : List E3) (T : List (Nm × Nat)) (B : Nat → Prop), n ≤ zs.length ∧ i = .int .i64 n ∧ O.length + W.length ≤ n ∧ Hid (DagSet wr b mo mw mt B O W T) ∧ Hid (DInv ⟨O.map E3.ent, W.map E3.ent⟩) ∧ Hid (∀ i, B i → w2.heap.size ≤ i ∧ i < wr.heap.size) ∧ Hid (Below w2.heap.size w2 wr)) (fun i _ => zs.length - (intOf i).toNat)
      case atStart => exact ⟨0, [], [], [], _, by omega, rfl, by simp, HD3, Lib.hid DInv.nil, Lib.hid (fun i hi => hi), HB3⟩
      case round =>
        obtain ⟨n, O, W, T, B, hn1, rfl, hOW, HD, HIN, HBB, HBR⟩ := hrel
        have hzr := HBR.out.size
        by_cases hlt : n < zs.length
        · obtain ⟨gz, oz, hpz, hgz, hcz, hIz⟩ := HA.out n hlt
          subst hpz
          have k0 : wr.cell? ⟨gz, oz + n, none⟩ = some (.int .i64 (zs.getD n 0)) := ((HB2.out.trans (HBR.out.mono (by omega))).cell (p := ⟨gz, oz + n, none⟩) hgz).trans hcz
          generalize zs.getD n 0 = z at *
          have HIZ := Lib.hid hIz
          clear hcz hIz
          go_upto_region 10 with fail
          obtain ⟨ix, htx, hix⟩ := pick_lt z L.length (by omega)
          obtain ⟨ex, gx, ox, hx1, _, hx3, hpx, hx4⟩ := op_at HOWS.out.at_ HL38.out hix
          subst hpx
          have hgx := cellsAt_lt hx4 (by rw [HL38.out ex hx3]; omega)
          obtain ⟨xo, hxo⟩ : ∃ y, y = ex.o := ⟨_, rfl⟩
          obtain ⟨xp, hxp⟩ : ∃ y, y = ex.p := ⟨_, rfl⟩
          obtain ⟨xc, hxc⟩ : ∃ y, y = ex.c := ⟨_, rfl⟩
          have hcsx : ex.cs = xo.cs xp xc := by rw [hxo, hxp, hxc]; rfl
          have HCx := Lib.hid (show cellsAt wr gx (ox + ix * 38) (xo.cs xp xc) from by rw [← hcsx]; exact hx4.of_block (HBR.out.block _ hgx))
          have HOKx := Lib.hid (show xo.Ok by rw [hxo]; exact (HMO.out.okL ex hx3).ok)
          have HSRx := Lib.hid (show Src wr xp (pcs xo.preds) by rw [hxo, hxp]; exact (HMO.out.okL ex hx3).src.below HBR.out (Nat.le_refl _))
          have H38x := Lib.hid (OpV.cs_length HOKx.out xp xc)
          clear hcsx hxo hxp hxc hx1 hx3 hx4
          have hul := u64_len L.length (by omega)
          have hul0 : ¬ (L.length : Int) = 0 := by omega
          have hwx := i64_nat ix (by omega)
          have hxl : (ix : Int) < (L.length : Int) := by omega
          have HCT := Lib.hid (take_any b mo mw mt B O W T xo HOKx.out xp xc wr (HT.out.of_below (HB2.out.trans (HBR.out.mono (by omega))) HT.out.2.2) HD.out HIN.out HSRx.out (by omega) (fun i hi => (HBB.out i hi).2))
          obtain ⟨rs, hrs⟩ : ∃ q, q = takeD ⟨O.map E3.ent, W.map E3.ent⟩ xo := ⟨_, rfl⟩
          have HINR := Lib.hid (show DInv rs.1 by rw [hrs]; exact HIN.out.take xo)
          have HLN := Lib.hid (show rs.1.ops.length + rs.1.wait.length ≤ O.length + W.length + 1 by rw [hrs]; simpa using takeD_len ⟨O.map E3.ent, W.map E3.ent⟩ xo)
          rw [← hrs] at HCT
          clear hrs
          go_upto_region 11 with (first
            | (refine wpList_loadAgg _ rfl 38 _ rfl _ Tryd.underlying38 rfl gx (ox + ix * 38) (by rfl) (xo.cs xp xc) (by rw [opInfo, H38x.out]) HCx.out ?_)
            | (go_at_call 10; refine HCT.out.mono ?_; rintro e w4 ⟨v4, B4, O4, W4, T4, rfl, hO4, hW4, hD4, hB4, hv4, hk4⟩))
          have hz4 := hk4.size
          have HD4 := Lib.hid hD4
          have HIN4 := Lib.hid (show DInv ⟨O4.map E3.ent, W4.map E3.ent⟩ by rw [hO4, hW4]; exact HINR.out)
          have hln4 : O4.length + W4.length ≤ n + 1 := by
            have h1 := HLN.out
            have h2 := len_ent' hO4
            have h3 := len_ent' hW4
            omega
          have HBB4 := Lib.hid (show ∀ i, B4 i → w2.heap.size ≤ i ∧ i < w4.heap.size from fun i hi => ⟨(hB4 i hi).1.elim (fun h => (HBB.out i h).1) (fun h => by omega), (hB4 i hi).2⟩)
          have HBR4 := Lib.hid (HBR.out.trans (hk4.toBelow hzr (fun i hi h => by rcases h with rfl | rfl | rfl <;> omega)))
          clear hO4 hW4 hD4 hB4 hv4 hk4
          go_wp2_with fail
          go_roundw
          case rel => exact ⟨n + 1, O4, W4, T4, B4, by omega, by go_num, by omega, HD4, HIN4, HBB4, HBR4⟩
          case measure => simp [intOf] <;> omega
        · obtain rfl : n = zs.length := by omega
          obtain ⟨wE, hwE⟩ : ∃ wE, wE = wr := ⟨_, rfl⟩
          subst hwE
          obtain ⟨X, hX⟩ : ∃ X, X = nsort (O.map (·.n)) := ⟨_, rfl⟩
          have hcn := dnames_any b mo mw mt B O W T wE HD.out (by omega)
          rw [← hX] at hcn
          have HCN := Lib.hid hcn
          have HX32 := Lib.hid (show ∀ x ∈ X, x.length = 32 from fun x hx => by
            rw [hX] at hx
            obtain ⟨e, he, rfl⟩ := List.mem_map.1 (nsort_mem.1 hx)
            exact (HD.out.okO e he).len)
          have HXH := Lib.hid (show ∀ x ∈ X, hasN (O.map E3.ent) x = true from fun x hx => by
            rw [hX] at hx
            exact (hasN_mem O x).2 (nsort_mem.1 hx))
          obtain ⟨Y, hY⟩ : ∃ Y, Y = nsort (W.map (·.n)) := ⟨_, rfl⟩
          have HXW := Lib.hid (show ∀ x ∈ X, x ∉ Y from fun x hx hy => by
            rw [hX] at hx
            rw [hY] at hy
            have h1 := nsort_mem.1 hx
            have h2 := nsort_mem.1 hy
            rw [names_ent] at h1 h2
            exact HIN.out.apart (s := ⟨O.map E3.ent, W.map E3.ent⟩) h1 h2)
          have HY32 := Lib.hid (show ∀ x ∈ Y, x.length = 32 from fun x hx => by
            rw [hY] at hx
            obtain ⟨e, he, rfl⟩ := List.mem_map.1 (nsort_mem.1 hx)
            exact (HD.out.okW e he).len)
          have hYl : Y.length ≤ 60 := by rw [hY, (nsort_perm _).length_eq]; simp; omega
          have hXl : X.length ≤ 60 := by rw [hX, (nsort_perm _).length_eq]; simp; omega
          have HWY := Lib.hid (show ∀ wz, Below wE.heap.size wE wz → Calls Tryd.prog 15 #[.pointer (some ⟨b, 0, none⟩)] wz fun e w' => ∃ v, e = .returned v ∧ Owns w' wz.heap.size 34 32 v Y.length (pcs Y) ∧ Below wz.heap.size wz w' from fun wz hb => by
            rw [hY]
            exact dwaits_any b mo mw mt B O W T wz (HD.out.under hb) (by omega))
          clear hcn hX hY
          go_wp2_with (go_at_call 11; refine HCN.out.mono ?_; rintro e w5 ⟨vX, rfl, hoX, hb5⟩; obtain ⟨pX, cX, rfl⟩ := hoX.form)
          have hz5 := hb5.size
          have HSX := Lib.hid hoX.srcOf
          have HD5 := Lib.hid (HD.out.under hb5)
          have HBE5 := Lib.hid hb5
          clear hb5 hoX
          go_loopw [53] (fun i wr => ∃ n2 : Nat, n2 ≤ X.length ∧ i = .int .i64 n2 ∧ Hid (Below w5.heap.size w5 wr)) (fun i _ => X.length - (intOf i).toNat)
          case atStart => exact ⟨0, by omega, rfl, Lib.hid (Below.refl _ _)⟩
          case round =>
            obtain ⟨n2, hn2, rfl, hbr⟩ := hrel
            have hzr2 := hbr.out.size
            by_cases hlt2 : n2 < X.length
            · obtain ⟨x, gx, ox, hx1, hx2, hx3, hxp, hx4⟩ := pred_at HSX.out.at_ HX32.out hlt2
              subst hxp
              have hglx := bcs_at_lt hx4 hx3
              have HLx := Lib.hid hx3
              have HMx := Lib.hid (List.mem_of_getElem? hx1)
              have HZx := Lib.hid (show (fillB [] 32).size = (bcs x).toArray.size by rw [show (bcs x).toArray.size = (bcs x).length from rfl, bcs_length, hx3]; rfl)
              have HCx := Lib.hid (show cellsAt wr gx (ox + n2 * 32) (bcs x) from hx4.of_block (hbr.out.block _ hglx))
              have HHx := Lib.hid (HXH.out x HMx.out)
              clear hx1 hx2 hx3 hx4
              go_upto_region 15 with (first
                | (refine wpList_loadAgg _ rfl 34 _ rfl _ Tryd.underlying34 rfl gx (ox + n2 * 32) (by rfl) (bcs x) (by rw [HI.out, bcs_length, HLx.out]) HCx.out ?_)
                | (refine wpList_allocZ _ rfl 34 rfl _ HZ.out ?_)
                | (refine wpList_storeNew _ wr rfl 34 _ _ rfl (fillB [] 32) rfl (by rfl) (bcs x).toArray (by rfl) (by rw [HI.out, List.size_toArray, bcs_length, HLx.out]) HZx.out (by simpa using bcs_one x) ?_))
              obtain ⟨w6x, hw6x⟩ : ∃ w6, w6 = wr.alloc (.cells (bcs x).toArray 34) := ⟨_, rfl⟩
              rw [← hw6x]
              obtain ⟨kx, hkx⟩ : ∃ k, k = wr.heap.size := ⟨_, rfl⟩
              rw [← hkx]
              have hb6x : Below wr.heap.size wr w6x := by rw [hw6x]; exact (Below.refl _ wr).alloc (Nat.le_refl _) _
              have HKx := Lib.hid (show cellsAt w6x kx 0 (bcs x) by rw [hw6x, hkx]; simpa using cellsAt_new wr (bcs x).toArray 34)
              have hz6x : kx < w6x.heap.size := by rw [hw6x, hkx]; simp
              have hkrx : wr.heap.size ≤ kx := by omega
              have HBWx := Lib.hid (hbr.out.trans (hb6x.mono hbr.out.size))
              have HGx := Lib.hid (get_hit (HD5.out.under HBWx.out) HIN.out HLx.out HHx.out)
              have hz6rx := hb6x.size
              clear hw6x hkx hb6x
              go_upto_region 16 with (first
                | (refine wpList_loadAgg _ rfl 34 _ rfl _ Tryd.underlying34 rfl kx 0 (by rfl) (bcs x) (by rw [HI.out, bcs_length, HLx.out]) HKx.out ?_)
                | (go_at_call 12; refine HGx.out.mono ?_; rintro e w7x ⟨oOp, px, cx, hthx, rfl, hownx, hb7x⟩)
                | (refine wpList_allocZ _ rfl 38 rfl _ HZO.out ?_)
                | (refine wpList_storeNew _ w7x rfl 38 _ _ rfl (zeroOp.cs none 0).toArray rfl (by rfl) (oOp.cs px cx).toArray (by rfl) (by rw [opInfo, List.size_toArray, OpV.cs_length hthx.ok]) (show 38 = (oOp.cs px cx).toArray.size by rw [List.size_toArray, OpV.cs_length hthx.ok]) (by simpa using OpV.cs_one oOp px cx) ?_))
              have HTHx := Lib.hid hthx
              obtain ⟨w8x, hw8x⟩ : ∃ w8, w8 = w7x.alloc (.cells (oOp.cs px cx).toArray 38) := ⟨_, rfl⟩
              rw [← hw8x]
              obtain ⟨qx, hqx⟩ : ∃ k, k = w7x.heap.size := ⟨_, rfl⟩
              rw [← hqx]
              have hb8x : Below w7x.heap.size w7x w8x := by rw [hw8x]; exact (Below.refl _ _).alloc (Nat.le_refl _) _
              have hz7x := hb7x.size
              have HQx := Lib.hid (show cellsAt w8x qx 0 (oOp.cs px cx) by rw [hw8x, hqx]; simpa using cellsAt_new w7x (oOp.cs px cx).toArray 38)
              have hz8x : qx < w8x.heap.size := by rw [hw8x, hqx]; simp
              have hbbx : Below w6x.heap.size w6x w8x := hb7x.trans (hb8x.mono hz7x)
              have hz68x := hbbx.size
              have HBXx := Lib.hid (HBWx.out.trans (hbbx.mono HBWx.out.size))
              have HKXx := Lib.hid (show cellsAt w8x kx 0 (bcs x) from HKx.out.of_block (hbbx.block _ hz6x))
              have HSPx := Lib.hid ((Owns.srcOf hownx).below hb8x (Nat.le_refl _))
              clear hw8x hqx hb8x hbbx hb7x hownx hthx
              obtain ⟨wP, hwP⟩ : ∃ wP, wP = wr := ⟨_, rfl⟩
              subst hwP
              have hc37 := (OpV.cs_at HTHx.out.ok HQx.out).2.2
              go_wp2_with fail
              clear hc37
              have HD8 := Lib.hid (HD5.out.under HBXx.out)
              have hplen := HTHx.out.ok.len
              go_loopw [13, 66] (fun dv i wr => ∃ n3 : Nat, n3 ≤ oOp.preds.length ∧ i = .int .i64 n3 ∧ dv = .int .i64 (deepL (O.map E3.ent) (oOp.preds.take n3)) ∧ Hid (Below w8x.heap.size w8x wr)) (fun _ i _ => oOp.preds.length - (intOf i).toNat)
              case atStart => exact ⟨0, by omega, rfl, rfl, Lib.hid (Below.refl _ _)⟩
              case round =>
                obtain ⟨n3, hn3, rfl, rfl, hbr3⟩ := hrel
                have hzr3 := hbr3.out.size
                by_cases hlt3 : n3 < oOp.preds.length
                · obtain ⟨y, gy, oy, hy1, hy2, hy3, hyp, hy4⟩ := pred_at (HSPx.out.below hbr3.out (Nat.le_refl _)).at_ HTHx.out.ok.ids hlt3
                  subst hyp
                  have hgly := bcs_at_lt hy4 hy3
                  have HLy := Lib.hid hy3
                  have HMy := Lib.hid (List.mem_of_getElem? hy1)
                  have HZy := Lib.hid (show (fillB [] 32).size = (bcs y).toArray.size by rw [show (bcs y).toArray.size = (bcs y).length from rfl, bcs_length, hy3]; rfl)
                  have HCy := Lib.hid (show cellsAt wr gy (oy + n3 * 32) (bcs y) from hy4)
                  have HHy := Lib.hid (HTHx.out.whole y HMy.out)
                  have HT3 := Lib.hid hy2
                  clear hy1 hy2 hy3 hy4
                  go_upto_region 20 with (first
                    | (refine wpList_loadAgg _ rfl 34 _ rfl _ Tryd.underlying34 rfl gy (oy + n3 * 32) (by rfl) (bcs y) (by rw [HI.out, bcs_length, HLy.out]) HCy.out ?_)
                    | (refine wpList_allocZ _ rfl 34 rfl _ HZ.out ?_)
                    | (refine wpList_storeNew _ wr rfl 34 _ _ rfl (fillB [] 32) rfl (by rfl) (bcs y).toArray (by rfl) (by rw [HI.out, List.size_toArray, bcs_length, HLy.out]) HZy.out (by simpa using bcs_one y) ?_))
                  obtain ⟨w6y, hw6y⟩ : ∃ w6, w6 = wr.alloc (.cells (bcs y).toArray 34) := ⟨_, rfl⟩
                  rw [← hw6y]
                  obtain ⟨ky, hky⟩ : ∃ k, k = wr.heap.size := ⟨_, rfl⟩
                  rw [← hky]
                  have hb6y : Below wr.heap.size wr w6y := by rw [hw6y]; exact (Below.refl _ wr).alloc (Nat.le_refl _) _
                  have HKy := Lib.hid (show cellsAt w6y ky 0 (bcs y) by rw [hw6y, hky]; simpa using cellsAt_new wr (bcs y).toArray 34)
                  have hz6y : ky < w6y.heap.size := by rw [hw6y, hky]; simp
                  have hkry : wr.heap.size ≤ ky := by omega
                  have HBWy := Lib.hid (hbr3.out.trans (hb6y.mono hbr3.out.size))
                  have HGy := Lib.hid (get_hit (HD8.out.under HBWy.out) HIN.out HLy.out HHy.out)
                  have hz6ry := hb6y.size
                  clear hw6y hky hb6y
                  go_upto_region 21 with (first
                    | (refine wpList_loadAgg _ rfl 34 _ rfl _ Tryd.underlying34 rfl ky 0 (by rfl) (bcs y) (by rw [HI.out, bcs_length, HLy.out]) HKy.out ?_)
                    | (go_at_call 12; refine HGy.out.mono ?_; rintro e w7y ⟨oQ, py, cy, hthy, rfl, howny, hb7y⟩)
                    | (refine wpList_allocZ _ rfl 38 rfl _ HZO.out ?_)
                    | (refine wpList_storeNew _ w7y rfl 38 _ _ rfl (zeroOp.cs none 0).toArray rfl (by rfl) (oQ.cs py cy).toArray (by rfl) (by rw [opInfo, List.size_toArray, OpV.cs_length hthy.ok]) (show 38 = (oQ.cs py cy).toArray.size by rw [List.size_toArray, OpV.cs_length hthy.ok]) (by simpa using OpV.cs_one oQ py cy) ?_))
                  have HTHy := Lib.hid hthy
                  obtain ⟨w8y, hw8y⟩ : ∃ w8, w8 = w7y.alloc (.cells (oQ.cs py cy).toArray 38) := ⟨_, rfl⟩
                  rw [← hw8y]
                  obtain ⟨qy, hqy⟩ : ∃ k, k = w7y.heap.size := ⟨_, rfl⟩
                  rw [← hqy]
                  have hb8y : Below w7y.heap.size w7y w8y := by rw [hw8y]; exact (Below.refl _ _).alloc (Nat.le_refl _) _
                  have hz7y := hb7y.size
                  have HQy := Lib.hid (show cellsAt w8y qy 0 (oQ.cs py cy) by rw [hw8y, hqy]; simpa using cellsAt_new w7y (oQ.cs py cy).toArray 38)
                  have hz8y : qy < w8y.heap.size := by rw [hw8y, hqy]; simp
                  have hbby : Below w6y.heap.size w6y w8y := hb7y.trans (hb8y.mono hz7y)
                  have hz68y := hbby.size
                  have HBXy := Lib.hid (HBWy.out.trans (hbby.mono HBWy.out.size))
                  have HKXy := Lib.hid (show cellsAt w8y ky 0 (bcs y) from HKy.out.of_block (hbby.block _ hz6y))
                  have HSPy := Lib.hid ((Owns.srcOf howny).below hb8y (Nat.le_refl _))
                  clear hw8y hqy hb8y hbby hb7y howny hthy
                  have hc36 := (OpV.cs_at HTHy.out.ok HQy.out).2.1
                  obtain ⟨D, hD⟩ : ∃ D, D = deepL (O.map E3.ent) (oOp.preds.take n3) := ⟨_, rfl⟩
                  have HDS := Lib.hid (show deepL (O.map E3.ent) (oOp.preds.take (n3 + 1)) = max D oQ.depth by rw [HT3.out, deepL_snoc, HTHy.out.depAt, hD])
                  rw [← hD]
                  clear hD
                  go_wp2_with fail
                  go_roundw
                  case rel => exact ⟨n3 + 1, by omega, by go_num, by rw [HDS.out], HBXy⟩
                  case measure => simp [intOf] <;> omega
                · obtain rfl : n3 = oOp.preds.length := by omega
                  obtain ⟨D, hD⟩ : ∃ D, D = deepL (O.map E3.ent) (oOp.preds.take oOp.preds.length) := ⟨_, rfl⟩
                  rw [← hD]
                  have hdd : IntKind.i64.wrap (D + 1) = oOp.depth := by
                    rw [hD, List.take_length, HTHx.out.depth]
                    rfl
                  clear hD
                  have HQr := Lib.hid (show cellsAt wr qx 0 (oOp.cs px cx) from HQx.out.of_block (hbr3.out.block _ hz8x))
                  have HKr := Lib.hid (show cellsAt wr kx 0 (bcs x) from HKXx.out.of_block (hbr3.out.block _ (by omega)))
                  have HO38 := Lib.hid (OpV.cs_length HTHx.out.ok px cx)
                  have HBr5 := Lib.hid (HBXx.out.trans (hbr3.out.mono HBXx.out.size))
                  have HSPr := Lib.hid (HSPx.out.below hbr3.out (Nat.le_refl _))
                  have HBEr := Lib.hid (HBE5.out.trans (HBr5.out.mono hz5))
                  have hcx : ∀ wz, Below wr.heap.size wr wz → Calls Tryd.prog 13 #[.agg (oOp.cs px cx).toArray] wz fun e w' => e = .returned (.agg (bcs x).toArray) ∧ Below wz.heap.size wz w' := fun wz hb => by
                    have h := ropname_any oOp HTHx.out.ok px cx wz (HT.out.of_below (HB2.out.trans ((HBR.out.trans ((HBEr.out.trans (hb.mono HBEr.out.size)).mono (by omega))).mono (by omega))) HT.out.2.2) (HSPr.out.below hb (Nat.le_refl _))
                    rw [HTHx.out.name] at h
                    exact h
                  have HCNX := Lib.hid hcx
                  clear hcx
                  go_upto_region 25 with fail
                  obtain ⟨NV, hNVa, hNVb⟩ : ∃ n, wr.heap.size ≤ n ∧ n ≤ wr.heap.size := ⟨_, Nat.le_refl _, Nat.le_refl _⟩
                  refine wp_region_noPanic ?_
                  refine wp_region_till 20 (fun w' => Below NV wr w') (by kernel_rfl) (by kernel_rfl) ?_
                  obtain ⟨wV, hwV⟩ : ∃ wV, wV = wr.drew := ⟨_, rfl⟩
                  have hSwV : Below NV wr wV := by rw [hwV]; exact (Below.refl NV wr).drew
                  rw [← hwV]
                  have HSV := Lib.hid hSwV
                  have hzwV : wr.heap.size ≤ wV.heap.size := by rw [hwV]; exact Nat.le_refl _
                  clear hwV hSwV
                  go_simp
                  refine Till.pure 0 rfl rfl (by kernel_rfl) (NoPanic.noFrame _) HSV.out ?_
                  go_big_quiet_step (fail)
                  refine wpQuiet_nil ?_
                  refine Till.pure 1 rfl rfl (by kernel_rfl) (NoPanic.noFrame _) HSV.out ?_
                  go_big_quiet_step (fail)
                  refine wpQuiet_nil ?_
                  refine Till.pure 2 rfl rfl (by kernel_rfl) (NoPanic.noFrame _) HSV.out ?_
                  go_big_quiet_step (fail)
                  refine wpQuiet_nil ?_
                  refine Till.pure 3 rfl rfl (by kernel_rfl) (NoPanic.noFrame _) HSV.out ?_
                  go_big_quiet_step (fail)
                  refine wpQuiet_nil ?_
                  refine Till.load 4 3 _ ⟨qx, 36, none⟩ (.int .i64 oOp.depth) rfl rfl rfl rfl (by kernel_rfl) (NoPanic.noFrame _) HSV.out (fun w' hw' => run_loadVar_one Tryd.underlying3 rfl (OpV.cs_at HTHx.out.ok (HQr.out.of_block (hw'.block _ (by omega)))).2.1) ?_
                  go_simp
                  refine Till.pure 5 rfl rfl (by kernel_rfl) (NoPanic.noFrame _) HSV.out ?_
                  go_big_quiet_step (fail)
                  refine wpQuiet_nil ?_
                  refine Till.pure 6 rfl rfl (by kernel_rfl) (NoPanic.noFrame _) HSV.out ?_
                  go_big_quiet_step (fail)
                  refine wpQuiet_nil ?_
                  refine Till.pure 7 rfl rfl (by kernel_rfl) (NoPanic.noFrame _) HSV.out ?_
                  go_big_quiet_step (fail)
                  refine wpQuiet_nil ?_
                  refine Till.pure 8 rfl rfl (by kernel_rfl) (NoPanic.noFrame _) HSV.out ?_
                  go_big_quiet_step (fail)
                  refine wpQuiet_nil ?_
                  refine Till.pure 9 rfl rfl (by kernel_rfl) (NoPanic.noFrame _) HSV.out ?_
                  go_big_quiet_step (fail)
                  refine wpQuiet_nil ?_
                  refine Till.load 10 38 _ ⟨qx, 0, none⟩ (.agg (oOp.cs px cx).toArray) rfl rfl rfl rfl (by kernel_rfl) (NoPanic.noFrame _) HSV.out (fun w' hw' => run_loadAgg Tryd.underlying38 rfl (by rw [opInfo, HO38.out]) (HQr.out.of_block (hw'.block _ (by omega)))) ?_
                  go_simp
                  refine Till.load 12 34 _ ⟨kx, 0, none⟩ (idv x) rfl rfl rfl rfl (by kernel_rfl) (NoPanic.noFrame _) HSV.out (fun w' hw' => run_loadAgg Tryd.underlying34 rfl (by rw [HI.out, bcs_length, HLx.out]) (HKr.out.of_block (hw'.block _ (by omega)))) ?_
                  go_simp
                  refine Till.act 11 rfl rfl (by kernel_rfl) rfl ?_
                  intro K hK
                  go_wp2_with (go_at_call 13; refine (HCNX.out wV (HSV.out.mono hNVa)).mono ?_; rintro e wN ⟨rfl, hbN⟩)
                  have hzN := hbN.size
                  have hSN := HSV.out.trans (hbN.mono (by omega))
                  refine hK _ _ hSN ?_
                  clear hK K
                  go_simp
                  refine Till.val 13 (.bool false) rfl rfl (by kernel_rfl) (NoPanic.noFrame _) hSN (fun w' => exec_neSame _ _ _ rfl x (by rfl) (by rfl) HLx.out w') ?_
                  go_simp
                  have HSN := Lib.hid hSN
                  clear hSN hbN
                  refine Till.pure 14 rfl rfl (by kernel_rfl) (NoPanic.noFrame _) HSN.out ?_
                  go_big_quiet_step (fail)
                  refine wpQuiet_nil ?_
                  refine Till.pure 15 rfl rfl (by kernel_rfl) (NoPanic.noFrame _) HSN.out ?_
                  go_big_quiet_step (fail)
                  refine wpQuiet_nil ?_
                  refine Till.pure 16 rfl rfl (by kernel_rfl) (NoPanic.noFrame _) HSN.out ?_
                  go_big_quiet_step (fail)
                  refine wpQuiet_nil ?_
                  refine Till.load 18 34 _ ⟨kx, 0, none⟩ (idv x) rfl rfl rfl rfl (by kernel_rfl) (NoPanic.noFrame _) HSN.out (fun w' hw' => run_loadAgg Tryd.underlying34 rfl (by rw [HI.out, bcs_length, HLx.out]) (HKr.out.of_block (hw'.block _ (by omega)))) ?_
                  go_simp
                  refine Till.act 17 rfl rfl (by kernel_rfl) rfl ?_
                  intro K hK
                  go_wp2_with (go_at_call 15; refine (HWY.out wN (HBEr.out.trans ((HSN.out.mono hNVa).mono HBEr.out.size))).mono ?_; rintro e wO ⟨vY, rfl, hoY, hbO⟩; obtain ⟨pY, cY, rfl⟩ := hoY.form)
                  have hzO := hbO.size
                  have hSO := HSN.out.trans (hbO.mono (by omega))
                  refine hK _ _ hSO ?_
                  clear hK K
                  go_simp
                  have hin := in_any Y pY cY x HLx.out wO HY32.out hoY.srcOf (by omega)
                  rw [decide_eq_false (HXW.out x HMx.out)] at hin
                  have HINY := Lib.hid hin
                  have HSO := Lib.hid hSO
                  clear hin hSO hbO hoY
                  refine Till.act 19 rfl rfl (by kernel_rfl) rfl ?_
                  intro K hK
                  go_wp2_with (go_at_call 14; refine HINY.out.mono ?_; rintro e wU ⟨rfl, hbU⟩)
                  have hzU := hbU.size
                  have hSU := HSO.out.trans (hbU.mono (by omega))
                  refine hK _ _ hSU ?_
                  clear hK K
                  go_simp
                  refine Till.tail _ rfl rfl (by kernel_rfl) (by kernel_rfl) ?_
                  have HSU := Lib.hid (HBr5.out.trans ((hSU.mono hNVa).mono HBr5.out.size))
                  clear hSU hbU
                  go_wp2
                  refine NoPanic.normal ?_
                  go_wp2
                  go_roundw
                  case rel => exact ⟨n2 + 1, by omega, by go_num, HSU⟩
                  case measure => simp [intOf] <;> omega
            · obtain rfl : n2 = X.length := by omega
              go_wp2
              go_ret
              exact ⟨rfl, HB2.out.trans ((HBR.out.trans ((HBE5.out.trans (hbr.out.mono hz5)).mono (by omega))).mono (by omega))⟩
end Go.Proofs.YtfoifdhcelcgiaaDoor
