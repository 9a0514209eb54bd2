/-
  LineBehind, walked: each operation stands in the row behind all that stands ahead of it; all are in it, each once.
-/
import Derived.Test.YtfoifdhcelcgiaaGreatDoorLineA
import Derived.Test.YtfoifdhcelcgiaaGreatDoorLineT
import Derived.Test.YtfoifdhcelcgiaaGreatDoorPast
import Derived.Test.YtfoifdhcelcgiaaGreatDoorBehP
namespace Go.Proofs.YtfoifdhcelcgiaaGreatDoor
open Go Go.RowKit

theorem owns_cap {w : World} {base : Nat} {e : TypeId} {size n c : Nat} {p : Option Addr} {xs : List Value} (h : Owns w base e size (.slice p n c) n xs) : n ≤ c := by
  rcases h.2 with ⟨_, h0⟩ | ⟨g, cap, cur, fz, hv, _, _, _, h5, _⟩
  · omega
  · simp only [Value.slice.injEq, true_and] at hv
    omega
theorem wrapLt {n m : Nat} (h : n < m) : decide ((n : Int) < (m : Int)) = true := decide_eq_true (by omega)
set_option maxRecDepth 100000 in
set_option maxHeartbeats 16000000 in
theorem behind_any (M : List MkV) (hM : ∀ m ∈ M, m.Ok) (p : Option Addr) (cap : Nat) (w : World) (hT : Tabs w) (hs : Src w p (mcs M)) (hps : ∀ m ∈ M, Src w m.p (pcs m.o.preds)) (hMl : M.length ≤ 1000000000) :
    Calls Tryz.prog 3 #[.slice p M.length cap] w fun e w' => e = .returned (.bool true) ∧ Below w.heap.size w w' := by
  obtain ⟨hz, hid⟩ := info_two idInfo
  have HZ := Lib.hid hz
  have HI := Lib.hid hid
  have HM := Lib.hid hM
  have HS := Lib.hid hs
  have HPS := Lib.hid hps
  have HT := Lib.hid hT
  clear hz hid hM hs hps hT
  go_enter Tryz.func3, Tryz.ntmps3
  go_upto_region 3 with (go_at_call 8; refine (alive11_any w HT.out).mono ?_; rintro e w1 ⟨rfl, hb1⟩)
  have hz1 := hb1.size
  have HB1 := Lib.hid hb1
  have HCB := Lib.hid (both_any M HM.out p cap w1 (HT.out.of_below hb1 HT.out.2.2) (HS.out.below hb1 (Nat.le_refl _)) (fun m hm => (HPS.out m hm).below hb1 (Nat.le_refl _)) hMl)
  clear hb1
  go_upto_region 4 with (go_at_call 9; refine HCB.out.mono ?_; rintro e w2 ⟨b, b2, O, W, O2, W2, rfl, hbo⟩)
  have hlen := hbo.len
  have hz2 := hbo.below.size
  have HB2 := Lib.hid (HB1.out.trans (hbo.below.mono hz1))
  obtain ⟨mo, mw, mt, BD, T, hdag⟩ := hbo.dag
  obtain ⟨vo, vw, vn, vm, FR, BR, href⟩ := hbo.ref
  have HD := Lib.hid hdag
  have HR := Lib.hid href
  have HIN := Lib.hid hbo.inv
  have HNE := Lib.hid (show O2.map (·.n) = O.map (·.n) by
    have h1 := congrArg (List.map (·.1)) hbo.e1
    rw [List.map_map, List.map_map] at h1
    exact h1)
  have hO2l : O2.length = O.length := by
    have h1 := congrArg List.length HNE.out
    rwa [List.length_map, List.length_map] at h1
  have HO2l := Lib.hid hO2l
  have hO2le : O2.length ≤ 30 := by omega
  obtain ⟨X, hX⟩ : ∃ X, X = namesOf (rowL (O.map E3.ent)) := ⟨_, rfl⟩
  have hco := order_any b mo mw mt BD O W T w2 HD.out HIN.out (by omega)
  rw [← hX] at hco
  have HCO := Lib.hid hco
  have HXM := Lib.hid (show ∀ x ∈ X, x ∈ O.map (·.n) from fun x hx => by
    rw [hX] at hx
    obtain ⟨e, he, rfl⟩ := List.mem_map.1 hx
    obtain ⟨e3, he3, rfl⟩ := List.mem_map.1 (rowL_mem.1 he)
    exact List.mem_map.2 ⟨e3, he3, rfl⟩)
  have HX32 := Lib.hid (show ∀ x ∈ X, x.length = 32 from fun x hx => by
    obtain ⟨e, he, rfl⟩ := List.mem_map.1 (HXM.out x hx)
    exact (HD.out.okO e he).len)
  have HXND := Lib.hid (show X.Nodup by rw [hX]; exact rowL_nd HIN.out.nd1)
  have HXX := Lib.hid hX
  have HXl := Lib.hid (show X.length = O.length by rw [hX]; unfold namesOf; rw [List.length_map, rowL_length, List.length_map])
  have hXl2 : X.length ≤ 30 := by rw [HXl.out]; omega
  have hOl2 : O.length ≤ 1000 := by omega
  have HDEP := Lib.hid (show ∀ e ∈ O.map E3.ent, e.2.depth ≤ 9223372036854775807 from fun e he => by
    obtain ⟨e3, he3, rfl⟩ := List.mem_map.1 he
    exact (HD.out.okO e3 he3).ok.dhi)
  have HLE := Lib.hid (show (O.map E3.ent).length ≤ 1000000000 by rw [List.length_map]; omega)
  clear hbo hdag href hco hX hO2l
  go_upto_region 5 with (go_at_call 10; refine HCO.out.mono ?_; rintro e w3 ⟨vX, rfl, hoX, hb3⟩; obtain ⟨pX, cX, rfl⟩ := hoX.form)
  have hz3 := hb3.size
  have hcX := owns_cap hoX
  have HSX := Lib.hid (Owns.srcOf hoX)
  have HB23 := Lib.hid hb3
  have HBw3 := Lib.hid (HB2.out.trans (hb3.mono HB2.out.size))
  clear hb3 hoX
  go_upto_region 6 with fail
  go_loopw [21] (fun i wr => ∃ n : Nat, n ≤ X.length ∧ i = .int .i64 n ∧ Hid (Below w3.heap.size w3 wr)) (fun i _ => X.length - (intOf i).toNat)
  case atStart => exact ⟨0, by omega, rfl, Lib.hid (Below.refl _ _)⟩
  case round =>
    obtain ⟨n, hn1, rfl, HB⟩ := hrel
    have hzr := HB.out.size
    by_cases hlt : n < X.length
    · obtain ⟨xx, gx, ox, hx1x, hx2x, hx3x, hxpx, hx4x⟩ := pred_at (HSX.out.below HB.out (Nat.le_refl _)).at_ HX32.out hlt
      have HEx := Lib.hid hx1x
      have HLx := Lib.hid hx3x
      have HMx := Lib.hid (List.mem_of_getElem? hx1x)
      have HZx := Lib.hid (show (fillB [] 32).size = (bcs xx).toArray.size by rw [show (bcs xx).toArray.size = (bcs xx).length from rfl, bcs_length, hx3x]; rfl)
      have HCx := Lib.hid hx4x
      clear hx1x hx2x hx3x hx4x
      subst hxpx
      go_upto_region 8 with (first
        | (refine wpList_loadAgg _ rfl 31 _ rfl _ Tryz.underlying31 rfl gx (ox + n * 32) (by rfl) (bcs xx) (by rw [HI.out, bcs_length, HLx.out]) HCx.out ?_)
        | (refine wpList_allocZ _ rfl 31 rfl _ HZ.out ?_)
        | (refine wpList_storeNew _ wr rfl 31 _ _ rfl (fillB [] 32) rfl (by rfl) (bcs xx).toArray (by rfl) (by rw [HI.out, List.size_toArray, bcs_length, HLx.out]) HZx.out (by simpa using bcs_one xx) ?_))
      obtain ⟨w6x, hw6x⟩ : ∃ w6, w6 = wr.alloc (.cells (bcs xx).toArray 31) := ⟨_, rfl⟩
      rw [← hw6x]
      obtain ⟨kx, hkx⟩ : ∃ k, k = wr.heap.size := ⟨_, rfl⟩
      rw [← hkx]
      have hb6x : Below wr.heap.size wr w6x := by rw [hw6x]; exact (Below.refl _ wr).alloc (Nat.le_refl _) _
      have HKx := Lib.hid (show cellsAt w6x kx 0 (bcs xx) by rw [hw6x, hkx]; simpa using cellsAt_new wr (bcs xx).toArray 31)
      have hk6x : kx < w6x.heap.size := by rw [hw6x, hkx]; simp
      have hz6x := hb6x.size
      have HB6x := Lib.hid hb6x
      clear hw6x hkx hb6x
      have HB26 := Lib.hid (HB23.out.trans ((HB.out.trans (HB6x.out.mono hzr)).mono HB23.out.size))
      have HCP := Lib.hid (past_any b mo mw mt BD O W T xx HLx.out w6x (HD.out.under HB26.out) HIN.out hOl2)
      go_upto_region 9 with (first
        | (refine wpList_loadAgg _ rfl 31 _ rfl _ Tryz.underlying31 rfl kx 0 (by rfl) (bcs xx) (by rw [HI.out, bcs_length, HLx.out]) HKx.out ?_)
        | (go_at_call 11; refine HCP.out.mono ?_; rintro e w7 ⟨vS, S, rfl, hSA, hSN, hSl, hoS, hb7⟩; obtain ⟨pS, cS, rfl⟩ := hoS.form))
      have hz7 := hb7.size
      obtain ⟨Y, hY⟩ : ∃ Y, Y = nsort S := ⟨_, rfl⟩
      rw [← hY] at hoS
      rw [← hY]
      have HYM := Lib.hid (show ∀ y ∈ Y, y ∈ X.take n from fun y hy => by
        rw [hY] at hy
        have h1 := anc_before HIN.out HDEP.out HLE.out (show (namesOf (rowL (O.map E3.ent)))[n]? = some xx by rw [← HXX.out]; exact HEx.out) (hSA y (nsort_mem.1 hy))
        rw [← HXX.out] at h1
        exact h1)
      have HY32 := Lib.hid (show ∀ y ∈ Y, y.length = 32 from fun y hy => HX32.out y (List.mem_of_mem_take (HYM.out y hy)))
      have hYl : Y.length ≤ 1000 := by rw [hY, (nsort_perm _).length_eq]; exact hSl
      have HSY := Lib.hid (Owns.srcOf hoS)
      have HK7 := Lib.hid (HKx.out.of_block (hb7.block _ hk6x))
      have HB37 := Lib.hid (HB.out.trans ((HB6x.out.trans (hb7.mono hz6x)).mono hzr))
      have hz37 := HB37.out.size
      have hkx7 : kx < w7.heap.size := by omega
      clear hSA hSN hSl hoS hb7 hY
      go_loopw [30] (fun i wr2 => ∃ k : Nat, k ≤ Y.length ∧ i = .int .i64 k ∧ Hid (Below w7.heap.size w7 wr2)) (fun i _ => Y.length - (intOf i).toNat)
      case atStart => exact ⟨0, by omega, rfl, Lib.hid (Below.refl _ _)⟩
      case round =>
        obtain ⟨k, hk1, rfl, HB2r⟩ := hrel
        have hzr2 := HB2r.out.size
        by_cases hlt2 : k < Y.length
        · obtain ⟨xy, gy, oy, hx1y, hx2y, hx3y, hxpy, hx4y⟩ := pred_at (HSY.out.below HB2r.out (Nat.le_refl _)).at_ HY32.out hlt2
          have HEy := Lib.hid hx1y
          have HLy := Lib.hid hx3y
          have HMy := Lib.hid (List.mem_of_getElem? hx1y)
          have HZy := Lib.hid (show (fillB [] 32).size = (bcs xy).toArray.size by rw [show (bcs xy).toArray.size = (bcs xy).length from rfl, bcs_length, hx3y]; rfl)
          have HCy := Lib.hid hx4y
          clear hx1y hx2y hx3y hx4y
          subst hxpy
          go_upto_region 11 with (first
            | (refine wpList_loadAgg _ rfl 31 _ rfl _ Tryz.underlying31 rfl gy (oy + k * 32) (by rfl) (bcs xy) (by rw [HI.out, bcs_length, HLy.out]) HCy.out ?_)
            | (refine wpList_allocZ _ rfl 31 rfl _ HZ.out ?_)
            | (refine wpList_storeNew _ wr rfl 31 _ _ rfl (fillB [] 32) rfl (by rfl) (bcs xy).toArray (by rfl) (by rw [HI.out, List.size_toArray, bcs_length, HLy.out]) HZy.out (by simpa using bcs_one xy) ?_))
          obtain ⟨w6y, hw6y⟩ : ∃ w6, w6 = wr.alloc (.cells (bcs xy).toArray 31) := ⟨_, rfl⟩
          rw [← hw6y]
          obtain ⟨ky, hky⟩ : ∃ k, k = wr.heap.size := ⟨_, rfl⟩
          rw [← hky]
          have hb6y : Below wr.heap.size wr w6y := by rw [hw6y]; exact (Below.refl _ wr).alloc (Nat.le_refl _) _
          have HKy := Lib.hid (show cellsAt w6y ky 0 (bcs xy) by rw [hw6y, hky]; simpa using cellsAt_new wr (bcs xy).toArray 31)
          have hk6y : ky < w6y.heap.size := by rw [hw6y, hky]; simp
          have hz6y := hb6y.size
          have HB6y := Lib.hid hb6y
          clear hw6y hky hb6y
          have HBy6 := Lib.hid (HB2r.out.trans (HB6y.out.mono hzr2))
          have HB3y := Lib.hid (HB37.out.trans (HBy6.out.mono hz37))
          have HYIN := Lib.hid (HYM.out xy HMy.out)
          have hzy6 := HBy6.out.size
          obtain ⟨NV, hNVa, hNVb⟩ : ∃ n, w6y.heap.size ≤ n ∧ n ≤ w6y.heap.size := ⟨_, Nat.le_refl _, Nat.le_refl _⟩
          refine wp_region_noPanic ?_
          refine wp_region_till 5 (fun w' => Below NV w6y w') (by kernel_rfl) (by kernel_rfl) ?_
          obtain ⟨wV, hwV⟩ : ∃ wV, wV = w6y.drew := ⟨_, rfl⟩
          have hSwV : Below NV w6y wV := by rw [hwV]; exact (Below.refl NV w6y).drew
          rw [← hwV]
          have HSV := Lib.hid hSwV
          have hzwV : w6y.heap.size ≤ wV.heap.size := by rw [hwV]; exact Nat.le_refl _
          clear hwV hSwV
          go_simp
          refine Till.pure 0 rfl rfl (by kernel_rfl) (NoPanic.noFrame _) HSV.out ?_
          go_big_quiet_step (fail)
          refine wpQuiet_nil ?_
          refine Till.pure 1 rfl rfl (by kernel_rfl) (NoPanic.noFrame _) HSV.out ?_
          go_big_quiet_step (fail)
          refine wpQuiet_nil ?_
          refine Till.hi 2 28 _ _ rfl rfl rfl 31 32 Tryz.underlying28 HI.out _ X.length cX n .i64 (by rfl) (by rfl) (by omega) (fun a e => by have e1 : (⟨gx, ox, none⟩ : Addr) = a := Option.some.inj e; subst e1; rfl) (by kernel_rfl) (NoPanic.noFrame _) HSV.out ?_
          go_simp
          refine Till.load 3 31 _ ⟨ky, 0, none⟩ (idv xy) rfl rfl rfl rfl (by kernel_rfl) (NoPanic.noFrame _) HSV.out (fun w' hw' => run_loadAgg Tryz.underlying31 rfl (by rw [HI.out, bcs_length, HLy.out]) (HKy.out.of_block (hw'.block _ (by omega)))) ?_
          go_simp
          have hci := in_any (X.take n) (some ⟨gx, ox, none⟩) cX xy HLy.out wV (fun z hz => HX32.out z (List.mem_of_mem_take hz)) (((HSX.out.takeN HX32.out n).below (HB3y.out) (Nat.le_refl _)).below HSV.out (by omega)) (by rw [List.length_take]; omega)
          rw [List.length_take, Nat.min_eq_left hn1, decide_eq_true HYIN.out] at hci
          have HCI := Lib.hid hci
          clear hci
          refine Till.act 4 rfl rfl (by kernel_rfl) rfl ?_
          intro K hK
          go_wp2_with (go_at_call 12; refine HCI.out.mono ?_; rintro e wA ⟨rfl, hbA⟩)
          have hzA := hbA.size
          have hSA := HSV.out.trans (hbA.mono (by omega))
          refine hK _ _ hSA ?_
          clear hK K
          go_simp
          have HSA := Lib.hid hSA
          clear hSA hbA
          refine Till.tail _ rfl rfl (by kernel_rfl) (by kernel_rfl) ?_
          have HFIN := Lib.hid (HBy6.out.trans ((HSA.out.mono hNVa).mono hzy6))
          go_wp2
          refine NoPanic.normal ?_
          go_wp2
          go_roundw
          case rel => exact ⟨k + 1, by omega, by go_num, HFIN⟩
          case measure => simp [intOf] <;> omega
        · obtain rfl : k = Y.length := by omega
          have HBx2 := Lib.hid (HB37.out.trans (HB2r.out.mono hz37))
          have HNIN := Lib.hid (nodup_notin HXND.out HEx.out)
          have HKx2 := Lib.hid (HK7.out.of_block (HB2r.out.block _ hkx7))
          have HATN := Lib.hid (show 0 ≤ atI (O2.map (·.n)) xx from Int.not_lt.1 fun h => atI_neg.1 h (by rw [HNE.out]; exact HXM.out xx HMx.out))
          go_upto_region 14 with fail
          obtain ⟨NV, hNVa, hNVb⟩ : ∃ n, wr.heap.size ≤ n ∧ n ≤ wr.heap.size := ⟨_, Nat.le_refl _, Nat.le_refl _⟩
          refine wp_region_noPanic ?_
          refine wp_region_till 10 (fun w' => Below NV wr w') (by kernel_rfl) (by kernel_rfl) ?_
          obtain ⟨wV, hwV⟩ : ∃ wV, wV = wr.drew := ⟨_, rfl⟩
          have hSwV : Below NV wr wV := by rw [hwV]; exact (Below.refl NV wr).drew
          rw [← hwV]
          have HSV := Lib.hid hSwV
          have hzwV : wr.heap.size ≤ wV.heap.size := by rw [hwV]; exact Nat.le_refl _
          clear hwV hSwV
          go_simp
          refine Till.pure 0 rfl rfl (by kernel_rfl) (NoPanic.noFrame _) HSV.out ?_
          go_big_quiet_step (fail)
          refine wpQuiet_nil ?_
          refine Till.pure 1 rfl rfl (by kernel_rfl) (NoPanic.noFrame _) HSV.out ?_
          go_big_quiet_step (fail)
          refine wpQuiet_nil ?_
          refine Till.hi 2 28 _ _ rfl rfl rfl 31 32 Tryz.underlying28 HI.out _ X.length cX n .i64 (by rfl) (by rfl) (by omega) (fun a e => by have e1 : (⟨gx, ox, none⟩ : Addr) = a := Option.some.inj e; subst e1; rfl) (by kernel_rfl) (NoPanic.noFrame _) HSV.out ?_
          go_simp
          refine Till.load 3 31 _ ⟨kx, 0, none⟩ (idv xx) rfl rfl rfl rfl (by kernel_rfl) (NoPanic.noFrame _) HSV.out (fun w' hw' => run_loadAgg Tryz.underlying31 rfl (by rw [HI.out, bcs_length, HLx.out]) (HKx2.out.of_block (hw'.block _ (by omega)))) ?_
          go_simp
          have hci := in_any (X.take n) (some ⟨gx, ox, none⟩) cX xx HLx.out wV (fun z hz => HX32.out z (List.mem_of_mem_take hz)) (((HSX.out.takeN HX32.out n).below (HBx2.out) (Nat.le_refl _)).below HSV.out (by omega)) (by rw [List.length_take]; omega)
          rw [List.length_take, Nat.min_eq_left hn1, decide_eq_false HNIN.out] at hci
          have HCI := Lib.hid hci
          clear hci
          refine Till.act 4 rfl rfl (by kernel_rfl) rfl ?_
          intro K hK
          go_wp2_with (go_at_call 12; refine HCI.out.mono ?_; rintro e wA ⟨rfl, hbA⟩)
          have hzA := hbA.size
          have hSA := HSV.out.trans (hbA.mono (by omega))
          refine hK _ _ hSA ?_
          clear hK K
          go_simp
          have HSA := Lib.hid hSA
          clear hSA hbA
          refine Till.pure 5 rfl rfl (by kernel_rfl) (NoPanic.noFrame _) HSA.out ?_
          go_big_quiet_step (fail)
          refine wpQuiet_nil ?_
          refine Till.pure 6 rfl rfl (by kernel_rfl) (NoPanic.noFrame _) HSA.out ?_
          go_big_quiet_step (fail)
          refine wpQuiet_nil ?_
          refine Till.load 7 31 _ ⟨kx, 0, none⟩ (idv xx) rfl rfl rfl rfl (by kernel_rfl) (NoPanic.noFrame _) HSA.out (fun w' hw' => run_loadAgg Tryz.underlying31 rfl (by rw [HI.out, bcs_length, HLx.out]) (HKx2.out.of_block (hw'.block _ (by omega)))) ?_
          go_simp
          have hca := at_any b2 vo vw vn vm FR BR O2 W2 xx HLx.out wA (HR.out.under ((HB23.out.trans (HBx2.out.mono HB23.out.size)).trans ((HSA.out.mono hNVa).mono (by omega)))) (by omega)
          obtain ⟨ai, hai⟩ : ∃ i, i = atI (O2.map (·.n)) xx := ⟨_, rfl⟩
          rw [← hai] at hca
          have hai0 : 0 ≤ ai := by rw [hai]; exact HATN.out
          have HCA := Lib.hid hca
          clear hca hai
          refine Till.act 8 rfl rfl (by kernel_rfl) rfl ?_
          intro K hK
          go_wp2_with (go_at_call 13; refine HCA.out.mono ?_; rintro e wC ⟨rfl, hbC⟩)
          have hzC := hbC.size
          have hSC := HSA.out.trans (hbC.mono (by omega))
          refine hK _ _ hSC ?_
          clear hK K
          go_simp
          have HSC := Lib.hid hSC
          clear hSC hbC
          have hai1 : decide (ai < 0) = false := decide_eq_false (by omega)
          refine Till.pure 9 rfl rfl (by kernel_rfl) (NoPanic.noFrame _) HSC.out ?_
          go_big_quiet_step (fail)
          refine wpQuiet_nil ?_
          refine Till.tail _ rfl rfl (by kernel_rfl) (by kernel_rfl) ?_
          have HFIN := Lib.hid (HBx2.out.trans ((HSC.out.mono hNVa).mono HBx2.out.size))
          go_wp2
          refine NoPanic.normal ?_
          go_wp2
          go_roundw
          case rel => exact ⟨n + 1, by omega, by go_num, HFIN⟩
          case measure => simp [intOf] <;> omega
    · obtain rfl : n = X.length := by omega
      have HBwr := Lib.hid (HBw3.out.trans (HB.out.mono HBw3.out.size))
      have HRr := Lib.hid (HR.out.under (HB23.out.trans (HB.out.mono HB23.out.size)))
      obtain ⟨po, co, hpo⟩ := HRr.out.ops.form
      have hc0 := HRr.out.c0
      rw [hpo] at hc0
      have hEQ : ((X.length : Int) == (O2.length : Int)) = true := by rw [HXl.out, HO2l.out]; simp
      clear hpo
      go_wp2_with fail
      go_ret
      exact ⟨rfl, HBwr.out⟩
end Go.Proofs.YtfoifdhcelcgiaaGreatDoor
