/-
  slices.Index and slices.Contains at names; slices.IndexFunc and slices.ContainsFunc at operations.
-/
import Derived.Test.YtfoifdhcelcgiaaGreatDoorPast
import Derived.Test.YtfoifdhcelcgiaaGreatDoorDel
namespace Go.Proofs.YtfoifdhcelcgiaaGreatDoor
open Go Go.RowKit

set_option maxRecDepth 100000 in
set_option maxHeartbeats 4000000 in
theorem ididx_any (X : List Nm) (p : Option Addr) (cap : Nat) (nm : Nm) (hnm : nm.length = 32) (w : World) (h32 : ∀ x ∈ X, x.length = 32) (hs : Src w p (pcs X)) (hXl : X.length ≤ 1000000000) :
    Calls Tryz.prog 84 #[.slice p X.length cap, idv nm] w fun e w' => ∃ r : Int, e = .returned (.int .i64 r) ∧ (0 ≤ r → nm ∈ X) ∧ Below w.heap.size w w' := by
  obtain ⟨hz, hid⟩ := info_two idInfo
  have HI := Lib.hid hid
  have HNM := Lib.hid hnm
  have HX32 := Lib.hid h32
  obtain ⟨w1, hw1⟩ : ∃ w1, w1 = w.alloc (.cells (bcs nm).toArray 31) := ⟨_, rfl⟩
  have hb1 : Below w.heap.size w w1 := by rw [hw1]; exact (Below.refl _ w).alloc (Nat.le_refl _) _
  have HA := Lib.hid (show cellsAt w1 w.heap.size 0 (bcs nm) by rw [hw1]; simpa using cellsAt_new w (bcs nm).toArray 31)
  have hlt : w.heap.size < w1.heap.size := by rw [hw1]; simp
  have HB1 := Lib.hid hb1
  have HS1 := Lib.hid (hs.below hb1 (Nat.le_refl _))
  clear hb1 hz hid hnm h32 hs
  go_enter Tryz.func84, Tryz.ntmps84
  go_upto_region 1 with (first | (refine wpList_boxAgg _ rfl 31 _ rfl (bcs nm).toArray (by rfl) ?_))
  rw [← hw1]
  clear hw1
  obtain ⟨kb, hkb⟩ : ∃ k, k = w.heap.size := ⟨_, rfl⟩
  rw [← hkb] at HA hlt
  rw [← hkb]
  clear hkb
  go_upto_region 2 with fail
  go_loopw [8] (fun i wr => ∃ n : Nat, n ≤ X.length ∧ i = .int .i64 n ∧ Hid (Below w1.heap.size w1 wr)) (fun i _ => X.length - (intOf i).toNat)
  case atStart => exact ⟨0, by omega, rfl, Lib.hid (Below.refl _ _)⟩
  case round =>
    obtain ⟨n, hn1, rfl, hbr⟩ := hrel
    have hszr := hbr.out.size
    by_cases hlt2 : n < X.length
    · obtain ⟨x, g, off, hx1, hx2, hx3, hxp, hx4⟩ := pred_at (HS1.out.below hbr.out (Nat.le_refl _)).at_ HX32.out hlt2
      subst hxp
      have hg := bcs_at_lt hx4 hx3
      have HX1 := Lib.hid hx1
      have HXc := Lib.hid (show cellsAt wr g (off + n * 32) (bcs x) from hx4)
      have HX3 := Lib.hid hx3
      have HAr := Lib.hid (HA.out.of_block (hbr.out.block _ hlt))
      clear hx1 hx2 hx3 hx4
      go_upto_region 4 with fail
      obtain ⟨NV, hNVa, hNVb⟩ : ∃ n, wr.heap.size ≤ n ∧ n ≤ wr.heap.size := ⟨_, Nat.le_refl _, Nat.le_refl _⟩
      refine wp_region_noPanic ?_
      refine wp_region_till 5 (fun w' => Below NV wr w') (by kernel_rfl) (by kernel_rfl) ?_
      obtain ⟨wV, hwV⟩ : ∃ wQQ, wQQ = wr.drew := ⟨_, rfl⟩
      have hSwV : Below NV wr wV := by rw [hwV]; exact (Below.refl NV wr).drew
      rw [← hwV]
      have HSV := Lib.hid hSwV
      have hzwV : wr.heap.size ≤ wV.heap.size := by rw [hwV]; exact Nat.le_refl _
      clear hwV hSwV
      go_simp
      refine Till.load 0 31 _ ⟨kb, 0, none⟩ (idv nm) rfl rfl rfl rfl (by kernel_rfl) (NoPanic.noFrame _) HSV.out (fun w' hw' => run_loadAgg Tryz.underlying31 rfl (by rw [HI.out, bcs_length, HNM.out]) (HAr.out.of_block (hw'.block _ (by omega)))) ?_
      go_simp
      refine Till.pure 1 rfl rfl (by kernel_rfl) (NoPanic.noFrame _) HSV.out ?_
      go_big_quiet_step (fail)
      refine wpQuiet_nil ?_
      refine Till.pure 2 rfl rfl (by kernel_rfl) (NoPanic.noFrame _) HSV.out ?_
      go_big_quiet_step (fail)
      refine wpQuiet_nil ?_
      refine Till.pure 3 rfl rfl (by kernel_rfl) (NoPanic.noFrame _) HSV.out ?_
      go_big_quiet_step (fail)
      refine wpQuiet_nil ?_
      refine Till.load 4 31 _ ⟨g, off + n * 32, none⟩ (idv x) rfl rfl rfl rfl (by kernel_rfl) (NoPanic.noFrame _) HSV.out (fun w' hw' => run_loadAgg Tryz.underlying31 rfl (by rw [HI.out, bcs_length, HX3.out]) (HXc.out.of_block (hw'.block _ (by omega)))) ?_
      go_simp
      refine Till.tail _ rfl rfl (by kernel_rfl) (by kernel_rfl) ?_
      have HFIN := Lib.hid (hbr.out.trans ((HSV.out.mono hNVa).mono hszr))
      refine wpList_eqId rfl _ _ _ rfl nm x (by rfl) (by rfl) HNM.out HX3.out ?_
      by_cases hxy : nm = x
      · have HXY := Lib.hid hxy
        have dxy : decide (nm = x) = true := decide_eq_true hxy
        clear hxy
        go_wp2
        refine NoPanic.normal ?_
        go_wp2
        go_ret
        exact ⟨_, rfl, fun _ => (by rw [HXY.out]; exact List.mem_of_getElem? HX1.out), HB1.out.trans (HFIN.out.mono HB1.out.size)⟩
      · have dxy : decide (nm = x) = false := decide_eq_false hxy
        clear hxy
        go_wp2
        refine NoPanic.normal ?_
        go_wp2
        go_roundw
        case rel => exact ⟨n + 1, by omega, by go_num, HFIN⟩
        case measure => simp [intOf] <;> omega
    · obtain rfl : n = X.length := by omega
      go_wp2
      go_ret
      exact ⟨_, rfl, fun h => absurd h (by decide), HB1.out.trans (hbr.out.mono HB1.out.size)⟩

set_option maxRecDepth 100000 in
theorem idcont_any (X : List Nm) (p : Option Addr) (cap : Nat) (nm : Nm) (hnm : nm.length = 32) (w : World) (h32 : ∀ x ∈ X, x.length = 32) (hs : Src w p (pcs X)) (hXl : X.length ≤ 1000000000) :
    Calls Tryz.prog 56 #[.slice p X.length cap, idv nm] w fun e w' => ∃ bb : Bool, e = .returned (.bool bb) ∧ (bb = true → nm ∈ X) ∧ Below w.heap.size w w' := by
  obtain ⟨hz, hid⟩ := info_two idInfo
  have HI := Lib.hid hid
  have HNM := Lib.hid hnm
  obtain ⟨w1, hw1⟩ : ∃ w1, w1 = w.alloc (.cells (bcs nm).toArray 31) := ⟨_, rfl⟩
  have hb1 : Below w.heap.size w w1 := by rw [hw1]; exact (Below.refl _ w).alloc (Nat.le_refl _) _
  have HA := Lib.hid (show cellsAt w1 w.heap.size 0 (bcs nm) by rw [hw1]; simpa using cellsAt_new w (bcs nm).toArray 31)
  have HB1 := Lib.hid hb1
  have HCI := Lib.hid (ididx_any X p cap nm hnm w1 h32 (hs.below hb1 (Nat.le_refl _)) hXl)
  clear hb1 hz hid hnm h32 hs
  go_enter Tryz.func56, Tryz.ntmps56
  go_upto_region 1 with (first | (refine wpList_boxAgg _ rfl 31 _ rfl (bcs nm).toArray (by rfl) ?_))
  rw [← hw1]
  clear hw1
  go_wp2_with (first
    | (refine wpList_loadAgg _ rfl 31 _ rfl _ Tryz.underlying31 rfl w.heap.size 0 (by rfl) (bcs nm) (by rw [HI.out, bcs_length, HNM.out]) HA.out ?_)
    | (go_at_call 84; refine HCI.out.mono ?_; rintro e w2 ⟨r, rfl, hr, hb2⟩))
  go_ret
  exact ⟨_, rfl, fun h => hr (by simpa using h), HB1.out.trans (hb2.mono HB1.out.size)⟩

set_option maxRecDepth 100000 in
set_option maxHeartbeats 4000000 in
theorem opidxR_any (p : Option Addr) (cap : Nat) (L : List E3) (w : World) (hs : Src w p (ocs L)) (h38 : ∀ e ∈ L, e.cs.length = 38) (g : Nat) (lb : Array Value) (eg : ∀ args w, (callFunc g args).run Tryz.prog w = .ok (.enter g args) w) (R : E3 → Prop)
    (hp : ∀ W, Below w.heap.size w W → ∀ e ∈ L, Calls Tryz.prog g (#[.agg e.cs.toArray] ++ lb) W fun e' w' => ∃ bb : Bool, e' = .returned (.bool bb) ∧ (bb = true → R e) ∧ Below W.heap.size W w') (hL : L.length ≤ 1000000) :
    Calls Tryz.prog 79 #[.slice p L.length cap, .func (.func g) #[] lb] w fun e w' => ∃ r : Int, e = .returned (.int .i64 r) ∧ (0 ≤ r → ∃ e ∈ L, R e) ∧ Below w.heap.size w w' := by
  have HS := Lib.hid hs
  have HP := Lib.hid hp
  have H38L := Lib.hid h38
  clear hs hp h38
  go_enter Tryz.func79, Tryz.ntmps79
  go_upto_region 2 with fail
  go_loopw [8] (fun i wr => ∃ n : Nat, n ≤ L.length ∧ i = .int .i64 n ∧ Hid (Below w.heap.size w wr)) (fun i _ => L.length - (intOf i).toNat)
  case atStart => exact ⟨0, by omega, rfl, Lib.hid (Below.refl _ _)⟩
  case round =>
    obtain ⟨n, hn1, rfl, HB⟩ := hrel
    by_cases hlt : n < L.length
    · obtain ⟨e, g0, off, he, _, he3, hep, he4⟩ := op_at (HS.out.below HB.out (Nat.le_refl _)).at_ H38L.out hlt
      subst hep
      have H38 := Lib.hid (H38L.out e he3)
      have HC := Lib.hid (show cellsAt wr g0 (off + n * 38) e.cs from he4)
      have HM := Lib.hid he3
      have HCL := Lib.hid (HP.out wr HB.out e he3)
      clear he he3 he4
      go_upto_if 16 with (first
        | (refine wpList_loadAgg _ rfl 46 _ rfl _ Tryz.underlying46 rfl g0 (off + n * 38) (by first | rfl | simp) e.cs (by rw [opInfo, H38.out]) HC.out ?_)
        | (go_at_fn g; refine HCL.out.mono ?_; rintro e' w' ⟨bb, rfl, hbb, hb'⟩))
      have HBB := Lib.hid hbb
      have HB' := Lib.hid (HB.out.trans (hb'.mono HB.out.size))
      clear hbb hb'
      cases bb with
      | true =>
        go_wp2
        go_ret
        exact ⟨_, rfl, fun _ => ⟨e, HM.out, HBB.out (by first | rfl | trivial)⟩, HB'.out⟩
      | false =>
        go_wp2
        go_roundw
        case rel => exact ⟨n + 1, by omega, by go_num, HB'⟩
        case measure => simp [intOf] <;> omega
    · obtain rfl : n = L.length := by omega
      go_wp2
      go_ret
      exact ⟨_, rfl, fun h => absurd h (by decide), HB.out⟩

set_option maxRecDepth 100000 in
theorem opcontR_any (p : Option Addr) (cap : Nat) (L : List E3) (w : World) (hs : Src w p (ocs L)) (h38 : ∀ e ∈ L, e.cs.length = 38) (g : Nat) (lb : Array Value) (eg : ∀ args w, (callFunc g args).run Tryz.prog w = .ok (.enter g args) w) (R : E3 → Prop)
    (hp : ∀ W, Below w.heap.size w W → ∀ e ∈ L, Calls Tryz.prog g (#[.agg e.cs.toArray] ++ lb) W fun e' w' => ∃ bb : Bool, e' = .returned (.bool bb) ∧ (bb = true → R e) ∧ Below W.heap.size W w') (hL : L.length ≤ 1000000) :
    Calls Tryz.prog 54 #[.slice p L.length cap, .func (.func g) #[] lb] w fun e w' => ∃ bb : Bool, e = .returned (.bool bb) ∧ (bb = true → ∃ e ∈ L, R e) ∧ Below w.heap.size w w' := by
  have HIX := Lib.hid (opidxR_any p cap L w hs h38 g lb eg R hp hL)
  clear hs h38 hp
  go_enter Tryz.func54, Tryz.ntmps54
  go_wp2_with (go_at_call 79; refine HIX.out.mono ?_; rintro e w1 ⟨r, rfl, hr, hb1⟩)
  go_ret
  exact ⟨_, rfl, fun h => hr (by simpa using h), hb1⟩
end Go.Proofs.YtfoifdhcelcgiaaGreatDoor
