/-
  LineIs, walked: Order, Row, Of and Keys answer what the document says, of all sets, keys and kinds; a nil set.
-/
import Derived.Test.YtfoifdhcelcgiaaGreatDoorLineA
import Derived.Test.YtfoifdhcelcgiaaGreatDoorLineT
import Derived.Test.YtfoifdhcelcgiaaGreatDoorVc
import Derived.Test.YtfoifdhcelcgiaaGreatDoorTSame
import Derived.Test.YtfoifdhcelcgiaaGreatDoorJi
import Derived.Test.YtfoifdhcelcgiaaGreatDoorJn
namespace Go.Proofs.YtfoifdhcelcgiaaGreatDoor
open Go Go.RowKit

theorem same_ops {X Y : List E3} (h : X.map E3.ent = Y.map E3.ent) : X.map (·.o) = Y.map (·.o) := by
  have h1 := congrArg (List.map (·.2)) h
  rw [List.map_map, List.map_map] at h1
  exact h1
set_option maxRecDepth 100000 in
set_option maxHeartbeats 16000000 in
theorem lineIs_any (M : List MkV) (hM : ∀ m ∈ M, m.Ok) (p : Option Addr) (cap : Nat) (w : World) (hT : Tabs w) (hs : Src w p (mcs M)) (hps : ∀ m ∈ M, Src w m.p (pcs m.o.preds)) (hMl : M.length ≤ 1000000000) (key : List UInt8) (hkey : key.length < 1048577) (pz : Option Addr) (cz : Nat) (zs : List Int) (hzs : Src w pz (zs.map (Value.int .i64))) (hzl : zs.length ≤ 9223372036854775807) :
    Calls Tryz.prog 4 #[.slice p M.length cap, txt key, .slice pz zs.length cz] w fun e w' => e = .returned (.bool true) ∧ Below w.heap.size w w' := by
  obtain ⟨hz, hid⟩ := info_two idInfo
  obtain ⟨hzo, _⟩ := info_two opZero
  have HI := Lib.hid hid
  have HZO := Lib.hid hzo
  have HM := Lib.hid hM
  have HS := Lib.hid hs
  have HPS := Lib.hid hps
  have HT := Lib.hid hT
  have HZS := Lib.hid hzs
  clear hz hid hzo hM hs hps hT hzs
  go_enter Tryz.func4, Tryz.ntmps4
  go_upto_region 3 with (go_at_call 8; refine (alive11_any w HT.out).mono ?_; rintro e w1 ⟨rfl, hb1⟩)
  have hz1 := hb1.size
  have HB1 := Lib.hid hb1
  have HCB := Lib.hid (both_any M HM.out p cap w1 (HT.out.of_below hb1 HT.out.2.2) (HS.out.below hb1 (Nat.le_refl _)) (fun m hm => (HPS.out m hm).below hb1 (Nat.le_refl _)) hMl)
  clear hb1
  have hsz := size_txt key
  by_cases hk10 : 10 < zs.length
  · have hlk : decide ((zs.length : Int) > 10) = true := decide_eq_true (by omega)
    go_wp2
    go_ret
    exact ⟨rfl, HB1.out⟩
  · have hlk : decide ((zs.length : Int) > 10) = false := decide_eq_false (by omega)
    by_cases hlong : 100 < key.length
    · have hlg : decide ((key.length : Int) > 100) = true := decide_eq_true (by omega)
      go_wp2
      go_ret
      exact ⟨rfl, HB1.out⟩
    · have hlg : decide ((key.length : Int) > 100) = false := decide_eq_false (by omega)
      go_upto_region 5 with fail
      clear hlk hlg
      go_upto_region 6 with (go_at_call 9; refine HCB.out.mono ?_; rintro e w2 ⟨b, b2, O, W, O2, W2, rfl, hbo⟩)
      have hlen := hbo.len
      have hz2 := hbo.below.size
      have HB2 := Lib.hid (HB1.out.trans (hbo.below.mono hz1))
      obtain ⟨mo, mw, mt, BD, TT, hdag⟩ := hbo.dag
      obtain ⟨vo, vw, vn, vm, FR, BR, href⟩ := hbo.ref
      have HD := Lib.hid hdag
      have HR := Lib.hid href
      have HIN := Lib.hid hbo.inv
      have HE1 := Lib.hid hbo.e1
      have hO2l : O2.length ≤ 30 := by
        have h1 := congrArg List.length hbo.e1
        rw [List.length_map, List.length_map] at h1
        omega
      have HND2 := Lib.hid (show (namesOf (O2.map E3.ent)).Nodup by rw [HE1.out]; exact HIN.out.nd1)
      have HNM2 := Lib.hid (show ∀ e ∈ O2, e.n = nameB e.o from fun e he => HIN.out.named e.ent (List.mem_append.2 (.inl (by rw [← HE1.out]; exact List.mem_map.2 ⟨e, he, rfl⟩))))
      have hcr := rrow_any b2 vo vw vn vm FR BR O2 W2 w2 href HND2.out HNM2.out (by omega) (HT.out.of_below HB2.out HT.out.2.2)
      rw [HE1.out] at hcr
      have HCR := Lib.hid hcr
      have HCO := Lib.hid (fun (wz : World) (hb : Below w2.heap.size w2 wz) => order_any b mo mw mt BD O W TT wz (HD.out.under hb) HIN.out (by omega))
      have HCRW := Lib.hid (fun (wz : World) (hb : Below w2.heap.size w2 wz) => row_any b mo mw mt BD O W TT wz (HD.out.under hb) HIN.out (by omega))
      have hz2w := HB2.out.size
      obtain ⟨X, hX⟩ : ∃ X, X = namesOf (rowL (O.map E3.ent)) := ⟨_, rfl⟩
      have HXl := Lib.hid (show X.length = O.length by rw [hX]; unfold namesOf; rw [List.length_map, rowL_length, List.length_map])
      have HXX := Lib.hid hX
      clear hbo hdag href hcr hX
      go_upto_region 7 with (go_at_call 14; refine HCR.out.mono ?_; rintro e w3 ⟨pR, cR, R, rfl, hRE, hRO, hRM, hb3⟩)
      have hz3 := hb3.size
      have HB23 := Lib.hid hb3
      have HRE := Lib.hid hRE
      have HRM := Lib.hid hRM
      have HRl := Lib.hid (show R.length = O.length by rw [← List.length_map (f := E3.ent), hRE, rowL_length, List.length_map])
      have hRl30 : R.length ≤ 30 := by rw [HRl.out]; omega
      have HSR3 := Lib.hid hRO.srcOf
      have hco := HCO.out w3 hb3
      rw [← HXX.out] at hco
      have HCO3 := Lib.hid hco
      clear hb3 hRE hRM hRO hco
      go_upto_region 8 with (go_at_call 10; refine HCO3.out.mono ?_; rintro e w4 ⟨vX, rfl, hoX, hb4⟩; obtain ⟨pX, cX, rfl⟩ := hoX.form)
      have hz4 := hb4.size
      have HB24 := Lib.hid (HB23.out.trans (hb4.mono hz3))
      have HSX := Lib.hid (Owns.srcOf hoX)
      have HSR4 := Lib.hid (HSR3.out.below hb4 (Nat.le_refl _))
      have HX32 := Lib.hid (show ∀ x ∈ X, x.length = 32 from fun x hx => by
        rw [HXX.out] at hx
        obtain ⟨e, he, rfl⟩ := List.mem_map.1 hx
        obtain ⟨e3, he3, rfl⟩ := List.mem_map.1 (rowL_mem.1 he)
        exact (HD.out.okO e3 he3).len)
      have HXR := Lib.hid (show X.length = R.length by rw [HXl.out, HRl.out])
      have hXr : ((X.length : Int) != (R.length : Int)) = false := by rw [HXR.out]; simp
      have HW4 := Lib.hid (HCRW.out w4 HB24.out)
      clear hoX hb4
      go_wp2_with fail
      refine HW4.out.mono ?_
      rintro e w5 ⟨v1, R1, BR1, rfl, hR1E, hR1O⟩
      obtain ⟨p1, c1, hp1⟩ := hR1O.own.form
      subst hp1
      have HB45 := Lib.hid hR1O.below
      have HB25 := Lib.hid (HB24.out.trans (HB45.out.mono HB24.out.size))
      have HSA := Lib.hid (sameall_any R1 R p1 pR c1 cR BR1 BR w5 hR1O.own.srcOf (HSR4.out.below HB45.out (Nat.le_refl _)) hR1O.okR (fun e he => (HR.out.under HB25.out).okO e (HRM.out e he)) (same_ops (by rw [hR1E, HRE.out])) (by
        have h1 := congrArg List.length hR1E
        rw [List.length_map, rowL_length, List.length_map] at h1
        omega))
      clear hR1E hR1O
      go_upto_region 10 with (go_at_call 15; refine HSA.out.mono ?_; rintro e w6 ⟨rfl, hb6⟩)
      have HB46 := Lib.hid (HB45.out.trans (hb6.mono HB45.out.size))
      have HB26 := Lib.hid (HB25.out.trans (hb6.mono HB25.out.size))
      have HSR6 := Lib.hid (HSR4.out.below HB46.out (Nat.le_refl _))
      have HSX6 := Lib.hid (HSX.out.below HB46.out (Nat.le_refl _))
      have HOK6 := Lib.hid (show ∀ e ∈ R, e.Ok w6 BR from fun e he => (HR.out.under HB26.out).okO e (HRM.out e he))
      have HR38 := Lib.hid (show ∀ e ∈ R, e.cs.length = 38 from fun e he => OpV.cs_length (HOK6.out e he).ok _ _)
      have HBw6 := Lib.hid (HB2.out.trans (HB26.out.mono hz2w))
      have hz26 := HB26.out.size
      clear hXr hb6
      go_upto_region 11 with fail
      go_loopw [46] (fun i wr => ∃ n : Nat, n ≤ R.length ∧ i = .int .i64 n ∧ Hid (Below w6.heap.size w6 wr)) (fun i _ => R.length - (intOf i).toNat)
      case atStart => exact ⟨0, by omega, rfl, Lib.hid (Below.refl _ _)⟩
      case round =>
        obtain ⟨n, hn1, rfl, HB⟩ := hrel
        have hzr := HB.out.size
        by_cases hlt : n < R.length
        · have hltX : n < X.length := by rw [HXR.out]; exact hlt
          obtain ⟨ex, gx, ox, hx1, _, hx3, hpx, hx4⟩ := op_at (HSR6.out.below HB.out (Nat.le_refl _)).at_ HR38.out hlt
          obtain ⟨xx, gy, oy, hy1, _, hy3, hpy, hy4⟩ := pred_at (HSX6.out.below HB.out (Nat.le_refl _)).at_ HX32.out hltX
          subst hpx hpy
          have hgy := bcs_at_lt hy4 hy3
          have HEX := Lib.hid ((HOK6.out ex hx3).keeps HB.out.size (fun i hi _ => HB.out.block i hi))
          have HNN := Lib.hid (show nameB ex.o = xx by
            rw [← HNM2.out ex (HRM.out ex hx3)]
            have h1 : (rowL (O.map E3.ent))[n]? = some ex.ent := by rw [← HRE.out, List.getElem?_map, hx1]; rfl
            have h2 := hy1
            rw [HXX.out] at h2
            unfold namesOf at h2
            rw [List.getElem?_map, h1] at h2
            exact Option.some.inj h2)
          obtain ⟨xo, hxo⟩ : ∃ y, y = ex.o := ⟨_, rfl⟩
          obtain ⟨xp, hxp⟩ : ∃ y, y = ex.p := ⟨_, rfl⟩
          obtain ⟨xc, hxc⟩ : ∃ y, y = ex.c := ⟨_, rfl⟩
          have hcs : ex.cs = xo.cs xp xc := by rw [hxo, hxp, hxc]; rfl
          rw [← hxo] at HNN
          have HCx := Lib.hid (show cellsAt wr gx (ox + n * 38) (xo.cs xp xc) by rw [← hcs]; exact hx4)
          have H38x := Lib.hid (show (xo.cs xp xc).length = 38 by rw [← hcs]; exact HR38.out ex hx3)
          have HXOK := Lib.hid (show xo.Ok ∧ Src wr xp (pcs xo.preds) by rw [hxo, hxp]; exact ⟨HEX.out.ok, HEX.out.src⟩)
          have HON := Lib.hid (OpV.cs_one xo xp xc)
          have HOZ := Lib.hid (show (zeroOp.cs none 0).toArray.size = (xo.cs xp xc).toArray.size by rw [List.size_toArray, List.size_toArray, H38x.out]; rfl)
          have HL := Lib.hid hy3
          have HCy := Lib.hid (show cellsAt wr gy (oy + n * 32) (bcs xx) from hy4)
          clear hcs hxo hxp hxc hx1 hx3 hx4 hy1 hy3 hy4
          go_upto_region 13 with (first
            | (refine wpList_loadAgg _ rfl 46 _ rfl _ Tryz.underlying46 rfl gx (ox + n * 38) (by rfl) (xo.cs xp xc) (by rw [opInfo, H38x.out]) HCx.out ?_)
            | (refine wpList_allocZ _ rfl 46 rfl _ HZO.out ?_)
            | (refine wpList_storeNew _ wr rfl 46 _ _ rfl (zeroOp.cs none 0).toArray rfl (by rfl) (xo.cs xp xc).toArray (by rfl) (by rw [opInfo, List.size_toArray, H38x.out]) HOZ.out (by simpa using HON.out) ?_))
          obtain ⟨w7, hw7⟩ : ∃ w6, w6 = wr.alloc (.cells (xo.cs xp xc).toArray 46) := ⟨_, rfl⟩
          rw [← hw7]
          obtain ⟨k7, hk7⟩ : ∃ k, k = wr.heap.size := ⟨_, rfl⟩
          rw [← hk7]
          have hb7 : Below wr.heap.size wr w7 := by rw [hw7]; exact (Below.refl _ wr).alloc (Nat.le_refl _) _
          have hz7 := hb7.size
          have hk77 : k7 < w7.heap.size := by rw [hw7, hk7]; simp
          have HC7 := Lib.hid (show cellsAt w7 k7 0 (xo.cs xp xc) by rw [hw7, hk7]; simpa using cellsAt_new wr (xo.cs xp xc).toArray 46)
          have HCy7 := Lib.hid (HCy.out.of_block (hb7.block _ hgy))
          have HS7 := Lib.hid (HXOK.out.2.below hb7 (Nat.le_refl _))
          have HB7 := Lib.hid (HB.out.trans (hb7.mono hzr))
          have hz67 := HB7.out.size
          have hgy7 : gy < w7.heap.size := by omega
          have hli : (n : Int) < (X.length : Int) := by omega
          have hwi : IntKind.i64.wrap (n : Int) = (n : Int) := i64_nat n (by omega)
          clear hw7 hk7 hb7
          obtain ⟨NV, hNVa, hNVb⟩ : ∃ n, w7.heap.size ≤ n ∧ n ≤ w7.heap.size := ⟨_, Nat.le_refl _, Nat.le_refl _⟩
          refine wp_region_noPanic ?_
          refine wp_region_till 6 (fun w' => Below NV w7 w') (by kernel_rfl) (by kernel_rfl) ?_
          obtain ⟨wV, hwV⟩ : ∃ wQQ, wQQ = w7.drew := ⟨_, rfl⟩
          have hSwV : Below NV w7 wV := by rw [hwV]; exact (Below.refl NV w7).drew
          rw [← hwV]
          have HSV := Lib.hid hSwV
          have hzwV : w7.heap.size ≤ wV.heap.size := by rw [hwV]; exact Nat.le_refl _
          clear hwV hSwV
          go_simp
          refine Till.load 0 46 _ ⟨k7, 0, none⟩ (.agg (xo.cs xp xc).toArray) rfl rfl rfl rfl (by kernel_rfl) (NoPanic.noFrame _) HSV.out (fun w' hw' => run_loadAgg Tryz.underlying46 rfl (by rw [opInfo, H38x.out]) (HC7.out.of_block (hw'.block _ (by omega)))) ?_
          go_simp
          refine Till.pure 2 rfl rfl (by kernel_rfl) (NoPanic.noFrame _) HSV.out ?_
          go_big_quiet_step (fail)
          refine wpQuiet_nil ?_
          refine Till.pure 3 rfl rfl (by kernel_rfl) (NoPanic.noFrame _) HSV.out ?_
          go_big_quiet_step (fail)
          refine wpQuiet_nil ?_
          refine Till.pure 4 rfl rfl (by kernel_rfl) (NoPanic.noFrame _) HSV.out ?_
          go_big_quiet_step (fail)
          refine wpQuiet_nil ?_
          refine Till.load 5 31 _ ⟨gy, oy + n * 32, none⟩ (idv xx) rfl rfl rfl rfl (by kernel_rfl) (NoPanic.noFrame _) HSV.out (fun w' hw' => run_loadAgg Tryz.underlying31 rfl (by rw [HI.out, bcs_length, HL.out]) (HCy7.out.of_block (hw'.block _ (by omega)))) ?_
          go_simp
          have hcn := ropname_any xo HXOK.out.1 xp xc wV (HT.out.of_below (HBw6.out.trans ((HB7.out.trans ((HSV.out.mono hNVa).mono hz67)).mono HBw6.out.size)) HT.out.2.2) (HS7.out.below HSV.out hNVa)
          rw [HNN.out] at hcn
          have HCN := Lib.hid hcn
          clear hcn hli hwi
          refine Till.act 1 rfl rfl (by kernel_rfl) rfl ?_
          intro K hK
          go_wp2_with (go_at_call 17; refine HCN.out.mono ?_; rintro e wA ⟨rfl, hbA⟩)
          have hzA := hbA.size
          have hSA := HSV.out.trans (hbA.mono (by omega))
          refine hK _ _ hSA ?_
          clear hK K
          go_simp
          have HSA := Lib.hid hSA
          clear hSA hbA
          refine Till.tail _ rfl rfl (by kernel_rfl) (by kernel_rfl) ?_
          have HFIN := Lib.hid (HB7.out.trans ((HSA.out.mono hNVa).mono hz67))
          refine wpList_neId rfl _ _ _ rfl xx xx (by rfl) (by rfl) HL.out HL.out ?_
          have dxy : decide (xx = xx) = true := decide_eq_true rfl
          go_wp2
          refine NoPanic.normal ?_
          go_wp2
          go_roundw
          case rel => exact ⟨n + 1, by omega, by go_num, HFIN⟩
          case measure => simp [intOf] <;> omega
        · obtain rfl : n = R.length := by omega
          have HB2r := Lib.hid (HB26.out.trans (HB.out.mono hz26))
          have HBwr := Lib.hid (HB2.out.trans (HB2r.out.mono hz2w))
          have hzwr := HBwr.out.size
          have HZr := Lib.hid (HZS.out.below HBwr.out (Nat.le_refl _))
          have HOF := Lib.hid (lineOf_any key zs pz cz b mo mw mt BD O W TT wr (HD.out.under HB2r.out) HIN.out (by omega) HZr.out (by omega))
          go_wp2_with fail
          refine HOF.out.mono ?_
          rintro e wA ⟨vA, A, BA, rfl, hAE, hAO⟩
          obtain ⟨pA, cA, hpA⟩ := hAO.own.form
          subst hpA
          have HBrA := Lib.hid hAO.below
          have HB2A := Lib.hid (HB2r.out.trans (HBrA.out.mono HB2r.out.size))
          have HBwA := Lib.hid (HBwr.out.trans (HBrA.out.mono hzwr))
          have hro := rof11_any key zs pz cz b2 vo vw vn vm FR BR O2 W2 wA (HR.out.under HB2A.out) HND2.out HNM2.out (by omega) (HT.out.of_below HBwA.out HT.out.2.2) (HZr.out.below HBrA.out (Nat.le_refl _)) (by omega)
          rw [HE1.out] at hro
          have HRO := Lib.hid hro
          have HAE := Lib.hid hAE
          have HAO := Lib.hid hAO
          clear hro hAE hAO
          go_wp2_with fail
          refine HRO.out.mono ?_
          rintro e wB ⟨pB, cB, Q, rfl, hQE, hQO, hQM, hbB⟩
          have HB2B := Lib.hid (HB2A.out.trans (hbB.mono HB2A.out.size))
          have HBAB := Lib.hid hbB
          have HSA2 := Lib.hid (sameall_any A Q pA pB cA cB BA BR wB (HAO.out.own.srcOf.below hbB (Nat.le_refl _)) hQO.srcOf (fun e he => (HAO.out.okR e he).keeps hbB.size (fun i hi _ => hbB.block i hi)) (fun e he => (HR.out.under HB2B.out).okO e (hQM e he)) (same_ops (by rw [HAE.out, hQE])) (by
            have h1 := congrArg List.length HAE.out
            have h2 := List.length_filter_le (pickO key zs) (rowL (O.map E3.ent))
            rw [List.length_map] at h1
            rw [rowL_length, List.length_map] at h2
            omega))
          clear hQE hQO hQM hbB
          go_wp2_with fail
          refine HSA2.out.mono ?_
          rintro e wC ⟨rfl, hbC⟩
          have HB2C := Lib.hid (HB2B.out.trans (hbC.mono HB2B.out.size))
          have HBrC := Lib.hid (HBrA.out.trans ((HBAB.out.trans (hbC.mono HBAB.out.size)).mono HBrA.out.size))
          have HZC := Lib.hid (HZr.out.below HBrC.out (Nat.le_refl _))
          obtain ⟨K, hK⟩ : ∃ K, K = keysL (O.map E3.ent) zs := ⟨_, rfl⟩
          have hKl : K.length ≤ 30 := by rw [hK]; exact Nat.le_trans (keysL_len _ _) (by rw [List.length_map]; omega)
          have hck := keys_any zs pz cz b mo mw mt BD O W TT wC (HD.out.under HB2C.out) HIN.out (by omega) HZC.out (by omega)
          rw [← hK] at hck
          have HCK := Lib.hid hck
          have HKD := Lib.hid hK
          clear hck hK hbC
          go_wp2_with fail
          refine HCK.out.mono ?_
          rintro e wD ⟨pD, cD, rfl, hoD, hbD⟩
          have HB2D := Lib.hid (HB2C.out.trans (hbD.mono HB2C.out.size))
          have HBCD := Lib.hid hbD
          have hrk := rkeys_any zs pz cz b2 vo vw vn vm FR BR O2 W2 wD (HR.out.under HB2D.out) (by omega) (HZC.out.below hbD (Nat.le_refl _)) (by omega)
          rw [HE1.out, ← HKD.out] at hrk
          have HRK := Lib.hid hrk
          have HSD := Lib.hid (Owns.srcOf (Owns.of hoD))
          clear hrk hoD hbD
          go_wp2_with fail
          refine HRK.out.mono ?_
          rintro e wE ⟨pE, cE, rfl, hoE, hbE⟩
          have HSM := Lib.hid (tsame_any K pD pE cD cE wE (HSD.out.below hbE (Nat.le_refl _)) (Owns.srcOf hoE) (by omega))
          have HBDE := Lib.hid hbE
          clear hoE hbE
          go_wp2_with fail
          refine HSM.out.mono ?_
          rintro e wF ⟨rfl, hbF⟩
          go_wp2_with fail
          refine (row_nil wF).mono ?_
          rintro e wG ⟨rfl, hbG⟩
          go_wp2_with fail
          refine (order_nil wG).mono ?_
          rintro e wH ⟨rfl, hbH⟩
          have HBDH := Lib.hid (HBDE.out.trans ((hbF.trans ((hbG.trans (hbH.mono hbG.size)).mono hbF.size)).mono HBDE.out.size))
          have HBrH := Lib.hid (HBrC.out.trans ((HBCD.out.trans (HBDH.out.mono HBCD.out.size)).mono HBrC.out.size))
          clear hbF hbG hbH
          go_wp2
          go_ret
          exact ⟨rfl, HBwr.out.trans (HBrH.out.mono hzwr)⟩
end Go.Proofs.YtfoifdhcelcgiaaGreatDoor
