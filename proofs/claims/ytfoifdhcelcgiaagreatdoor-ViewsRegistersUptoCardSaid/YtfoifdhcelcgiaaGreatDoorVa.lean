/-
  Parts of one kind, put together.
-/
import Derived.Test.YtfoifdhcelcgiaaGreatDoorPast
import Derived.Test.YtfoifdhcelcgiaaGreatDoorDel
import Derived.Test.YtfoifdhcelcgiaaGreatDoorLineOf
import Derived.Test.YtfoifdhcelcgiaaGreatDoorJl
import Derived.Test.YtfoifdhcelcgiaaGreatDoorLineA
import Derived.Test.YtfoifdhcelcgiaaGreatDoorTSame
import Derived.Test.YtfoifdhcelcgiaaGreatDoorLineK
import Derived.Test.YtfoifdhcelcgiaaGreatDoorJj
/- slices.Index and slices.Contains at names; slices.IndexFunc and slices.ContainsFunc at operations. -/
namespace Go.Proofs.YtfoifdhcelcgiaaGreatDoor
open Go Go.RowKit

set_option maxRecDepth 100000 in
set_option maxHeartbeats 4000000 in
theorem ididx_any (X : List Nm) (p : Option Addr) (cap : Nat) (nm : Nm) (hnm : nm.length = 32) (w : World) (h32 : ∀ x ∈ X, x.length = 32) (hs : Src w p (pcs X)) (hXl : X.length ≤ 1000000000) :
    Calls Tryz.prog 84 #[.slice p X.length cap, idv nm] w fun e w' => ∃ r : Int, e = .returned (.int .i64 r) ∧ (0 ≤ r → nm ∈ X) ∧ Below w.heap.size w w' := by
  obtain ⟨hz, hid⟩ := info_two idInfo
  have HI := Lib.hid hid
  have HNM := Lib.hid hnm
  have HX32 := Lib.hid h32
  obtain ⟨w1, hw1⟩ : ∃ w1, w1 = w.alloc (.cells (bcs nm).toArray 31) := ⟨_, rfl⟩
  have hb1 : Below w.heap.size w w1 := by rw [hw1]; exact (Below.refl _ w).alloc (Nat.le_refl _) _
  have HA := Lib.hid (show cellsAt w1 w.heap.size 0 (bcs nm) by rw [hw1]; simpa using cellsAt_new w (bcs nm).toArray 31)
  have hlt : w.heap.size < w1.heap.size := by rw [hw1]; simp
  have HB1 := Lib.hid hb1
  have HS1 := Lib.hid (hs.below hb1 (Nat.le_refl _))
  clear hb1 hz hid hnm h32 hs
  go_enter Tryz.func84, Tryz.ntmps84
  go_upto_region 1 with (first | (refine wpList_boxAgg _ rfl 31 _ rfl (bcs nm).toArray (by rfl) ?_))
  rw [← hw1]
  clear hw1
  obtain ⟨kb, hkb⟩ : ∃ k, k = w.heap.size := ⟨_, rfl⟩
  rw [← hkb] at HA hlt
  rw [← hkb]
  clear hkb
  go_upto_region 2 with fail
  go_loopw [8] (fun i wr => ∃ n : Nat, n ≤ X.length ∧ i = .int .i64 n ∧ Hid (Below w1.heap.size w1 wr)) (fun i _ => X.length - (intOf i).toNat)
  case atStart => exact ⟨0, by omega, rfl, Lib.hid (Below.refl _ _)⟩
  case round =>
    obtain ⟨n, hn1, rfl, hbr⟩ := hrel
    have hszr := hbr.out.size
    by_cases hlt2 : n < X.length
    · obtain ⟨x, g, off, hx1, hx2, hx3, hxp, hx4⟩ := pred_at (HS1.out.below hbr.out (Nat.le_refl _)).at_ HX32.out hlt2
      subst hxp
      have hg := bcs_at_lt hx4 hx3
      have HX1 := Lib.hid hx1
      have HXc := Lib.hid (show cellsAt wr g (off + n * 32) (bcs x) from hx4)
      have HX3 := Lib.hid hx3
      have HAr := Lib.hid (HA.out.of_block (hbr.out.block _ hlt))
      clear hx1 hx2 hx3 hx4
      go_upto_region 4 with fail
      obtain ⟨NV, hNVa, hNVb⟩ : ∃ n, wr.heap.size ≤ n ∧ n ≤ wr.heap.size := ⟨_, Nat.le_refl _, Nat.le_refl _⟩
      refine wp_region_noPanic ?_
      refine wp_region_till 5 (fun w' => Below NV wr w') (by kernel_rfl) (by kernel_rfl) ?_
      obtain ⟨wV, hwV⟩ : ∃ wQQ, wQQ = wr.drew := ⟨_, rfl⟩
      have hSwV : Below NV wr wV := by rw [hwV]; exact (Below.refl NV wr).drew
      rw [← hwV]
      have HSV := Lib.hid hSwV
      have hzwV : wr.heap.size ≤ wV.heap.size := by rw [hwV]; exact Nat.le_refl _
      clear hwV hSwV
      go_simp
      refine Till.load 0 31 _ ⟨kb, 0, none⟩ (idv nm) rfl rfl rfl rfl (by kernel_rfl) (NoPanic.noFrame _) HSV.out (fun w' hw' => run_loadAgg Tryz.underlying31 rfl (by rw [HI.out, bcs_length, HNM.out]) (HAr.out.of_block (hw'.block _ (by omega)))) ?_
      go_simp
      refine Till.pure 1 rfl rfl (by kernel_rfl) (NoPanic.noFrame _) HSV.out ?_
      go_big_quiet_step (fail)
      refine wpQuiet_nil ?_
      refine Till.pure 2 rfl rfl (by kernel_rfl) (NoPanic.noFrame _) HSV.out ?_
      go_big_quiet_step (fail)
      refine wpQuiet_nil ?_
      refine Till.pure 3 rfl rfl (by kernel_rfl) (NoPanic.noFrame _) HSV.out ?_
      go_big_quiet_step (fail)
      refine wpQuiet_nil ?_
      refine Till.load 4 31 _ ⟨g, off + n * 32, none⟩ (idv x) rfl rfl rfl rfl (by kernel_rfl) (NoPanic.noFrame _) HSV.out (fun w' hw' => run_loadAgg Tryz.underlying31 rfl (by rw [HI.out, bcs_length, HX3.out]) (HXc.out.of_block (hw'.block _ (by omega)))) ?_
      go_simp
      refine Till.tail _ rfl rfl (by kernel_rfl) (by kernel_rfl) ?_
      have HFIN := Lib.hid (hbr.out.trans ((HSV.out.mono hNVa).mono hszr))
      refine wpList_eqId rfl _ _ _ rfl nm x (by rfl) (by rfl) HNM.out HX3.out ?_
      by_cases hxy : nm = x
      · have HXY := Lib.hid hxy
        have dxy : decide (nm = x) = true := decide_eq_true hxy
        clear hxy
        go_wp2
        refine NoPanic.normal ?_
        go_wp2
        go_ret
        exact ⟨_, rfl, fun _ => (by rw [HXY.out]; exact List.mem_of_getElem? HX1.out), HB1.out.trans (HFIN.out.mono HB1.out.size)⟩
      · have dxy : decide (nm = x) = false := decide_eq_false hxy
        clear hxy
        go_wp2
        refine NoPanic.normal ?_
        go_wp2
        go_roundw
        case rel => exact ⟨n + 1, by omega, by go_num, HFIN⟩
        case measure => simp [intOf] <;> omega
    · obtain rfl : n = X.length := by omega
      go_wp2
      go_ret
      exact ⟨_, rfl, fun h => absurd h (by decide), HB1.out.trans (hbr.out.mono HB1.out.size)⟩

set_option maxRecDepth 100000 in
theorem idcont_any (X : List Nm) (p : Option Addr) (cap : Nat) (nm : Nm) (hnm : nm.length = 32) (w : World) (h32 : ∀ x ∈ X, x.length = 32) (hs : Src w p (pcs X)) (hXl : X.length ≤ 1000000000) :
    Calls Tryz.prog 56 #[.slice p X.length cap, idv nm] w fun e w' => ∃ bb : Bool, e = .returned (.bool bb) ∧ (bb = true → nm ∈ X) ∧ Below w.heap.size w w' := by
  obtain ⟨hz, hid⟩ := info_two idInfo
  have HI := Lib.hid hid
  have HNM := Lib.hid hnm
  obtain ⟨w1, hw1⟩ : ∃ w1, w1 = w.alloc (.cells (bcs nm).toArray 31) := ⟨_, rfl⟩
  have hb1 : Below w.heap.size w w1 := by rw [hw1]; exact (Below.refl _ w).alloc (Nat.le_refl _) _
  have HA := Lib.hid (show cellsAt w1 w.heap.size 0 (bcs nm) by rw [hw1]; simpa using cellsAt_new w (bcs nm).toArray 31)
  have HB1 := Lib.hid hb1
  have HCI := Lib.hid (ididx_any X p cap nm hnm w1 h32 (hs.below hb1 (Nat.le_refl _)) hXl)
  clear hb1 hz hid hnm h32 hs
  go_enter Tryz.func56, Tryz.ntmps56
  go_upto_region 1 with (first | (refine wpList_boxAgg _ rfl 31 _ rfl (bcs nm).toArray (by rfl) ?_))
  rw [← hw1]
  clear hw1
  go_wp2_with (first
    | (refine wpList_loadAgg _ rfl 31 _ rfl _ Tryz.underlying31 rfl w.heap.size 0 (by rfl) (bcs nm) (by rw [HI.out, bcs_length, HNM.out]) HA.out ?_)
    | (go_at_call 84; refine HCI.out.mono ?_; rintro e w2 ⟨r, rfl, hr, hb2⟩))
  go_ret
  exact ⟨_, rfl, fun h => hr (by simpa using h), HB1.out.trans (hb2.mono HB1.out.size)⟩

set_option maxRecDepth 100000 in
set_option maxHeartbeats 4000000 in
theorem opidxR_any (p : Option Addr) (cap : Nat) (L : List E3) (w : World) (hs : Src w p (ocs L)) (h38 : ∀ e ∈ L, e.cs.length = 38) (g : Nat) (lb : Array Value) (eg : ∀ args w, (callFunc g args).run Tryz.prog w = .ok (.enter g args) w) (R : E3 → Prop)
    (hp : ∀ W, Below w.heap.size w W → ∀ e ∈ L, Calls Tryz.prog g (#[.agg e.cs.toArray] ++ lb) W fun e' w' => ∃ bb : Bool, e' = .returned (.bool bb) ∧ (bb = true → R e) ∧ Below W.heap.size W w') (hL : L.length ≤ 1000000) :
    Calls Tryz.prog 79 #[.slice p L.length cap, .func (.func g) #[] lb] w fun e w' => ∃ r : Int, e = .returned (.int .i64 r) ∧ (0 ≤ r → ∃ e ∈ L, R e) ∧ Below w.heap.size w w' := by
  have HS := Lib.hid hs
  have HP := Lib.hid hp
  have H38L := Lib.hid h38
  clear hs hp h38
  go_enter Tryz.func79, Tryz.ntmps79
  go_upto_region 2 with fail
  go_loopw [8] (fun i wr => ∃ n : Nat, n ≤ L.length ∧ i = .int .i64 n ∧ Hid (Below w.heap.size w wr)) (fun i _ => L.length - (intOf i).toNat)
  case atStart => exact ⟨0, by omega, rfl, Lib.hid (Below.refl _ _)⟩
  case round =>
    obtain ⟨n, hn1, rfl, HB⟩ := hrel
    by_cases hlt : n < L.length
    · obtain ⟨e, g0, off, he, _, he3, hep, he4⟩ := op_at (HS.out.below HB.out (Nat.le_refl _)).at_ H38L.out hlt
      subst hep
      have H38 := Lib.hid (H38L.out e he3)
      have HC := Lib.hid (show cellsAt wr g0 (off + n * 38) e.cs from he4)
      have HM := Lib.hid he3
      have HCL := Lib.hid (HP.out wr HB.out e he3)
      clear he he3 he4
      go_upto_if 16 with (first
        | (refine wpList_loadAgg _ rfl 46 _ rfl _ Tryz.underlying46 rfl g0 (off + n * 38) (by first | rfl | simp) e.cs (by rw [opInfo, H38.out]) HC.out ?_)
        | (go_at_fn g; refine HCL.out.mono ?_; rintro e' w' ⟨bb, rfl, hbb, hb'⟩))
      have HBB := Lib.hid hbb
      have HB' := Lib.hid (HB.out.trans (hb'.mono HB.out.size))
      clear hbb hb'
      cases bb with
      | true =>
        go_wp2
        go_ret
        exact ⟨_, rfl, fun _ => ⟨e, HM.out, HBB.out (by first | rfl | trivial)⟩, HB'.out⟩
      | false =>
        go_wp2
        go_roundw
        case rel => exact ⟨n + 1, by omega, by go_num, HB'⟩
        case measure => simp [intOf] <;> omega
    · obtain rfl : n = L.length := by omega
      go_wp2
      go_ret
      exact ⟨_, rfl, fun h => absurd h (by decide), HB.out⟩

set_option maxRecDepth 100000 in
theorem opcontR_any (p : Option Addr) (cap : Nat) (L : List E3) (w : World) (hs : Src w p (ocs L)) (h38 : ∀ e ∈ L, e.cs.length = 38) (g : Nat) (lb : Array Value) (eg : ∀ args w, (callFunc g args).run Tryz.prog w = .ok (.enter g args) w) (R : E3 → Prop)
    (hp : ∀ W, Below w.heap.size w W → ∀ e ∈ L, Calls Tryz.prog g (#[.agg e.cs.toArray] ++ lb) W fun e' w' => ∃ bb : Bool, e' = .returned (.bool bb) ∧ (bb = true → R e) ∧ Below W.heap.size W w') (hL : L.length ≤ 1000000) :
    Calls Tryz.prog 54 #[.slice p L.length cap, .func (.func g) #[] lb] w fun e w' => ∃ bb : Bool, e = .returned (.bool bb) ∧ (bb = true → ∃ e ∈ L, R e) ∧ Below w.heap.size w w' := by
  have HIX := Lib.hid (opidxR_any p cap L w hs h38 g lb eg R hp hL)
  clear hs h38 hp
  go_enter Tryz.func54, Tryz.ntmps54
  go_wp2_with (go_at_call 79; refine HIX.out.mono ?_; rintro e w1 ⟨r, rfl, hr, hb1⟩)
  go_ret
  exact ⟨_, rfl, fun h => hr (by simpa using h), hb1⟩
end Go.Proofs.YtfoifdhcelcgiaaGreatDoor

/- Is what was added dropped by one that knew it: the closure of views.Members. -/
namespace Go.Proofs.YtfoifdhcelcgiaaGreatDoor
open Go Go.RowKit

set_option maxRecDepth 100000 in
set_option maxHeartbeats 8000000 in
theorem memclo_any (b mo mw mt : Nat) (B : Nat → Prop) (O W : List E3) (T : List (Nm × Nat)) (nm : Nm) (hnm : nm.length = 32) (xo : OpV) (xp : Option Addr) (xc : Nat) (ko ks kn : Nat) (e : E3) (w : World) (h : DagSet w b mo mw mt B O W T) (hI : DInv ⟨O.map E3.ent, W.map E3.ent⟩) (hL : O.length ≤ 1000) (hT : Tabs w)
    (hO : cellsAt w ko 0 (xo.cs xp xc)) (hko : ko < w.heap.size) (hs : w.cell? ⟨ks, 0, none⟩ = some (.pointer (some ⟨b, 0, none⟩))) (hN : cellsAt w kn 0 (bcs nm)) (hkn : kn < w.heap.size) (hE : e.o.Ok) (hsrc : Src w e.p (pcs e.o.preds)) :
    Calls Tryz.prog 55 (#[.agg e.cs.toArray] ++ #[.pointer (some ⟨ko, 0, none⟩), .pointer (some ⟨ks, 0, none⟩), .pointer (some ⟨kn, 0, none⟩)]) w fun e' w' => ∃ bb : Bool, e' = .returned (.bool bb) ∧ (bb = true → Anc (O.map E3.ent) (nameB e.o) nm) ∧ Below w.heap.size w w' := by
  obtain ⟨hz, hid⟩ := info_two idInfo
  have HI := Lib.hid hid
  have H38 := Lib.hid (OpV.cs_length hE e.p e.c)
  obtain ⟨w1, hw1⟩ : ∃ w1, w1 = w.alloc (.cells e.cs.toArray 46) := ⟨_, rfl⟩
  have hb1 : Below w.heap.size w w1 := by rw [hw1]; exact (Below.refl _ w).alloc (Nat.le_refl _) _
  have HB1 := Lib.hid hb1
  have hk1 : w.heap.size < w1.heap.size := by rw [hw1]; simp
  have hC : cellsAt w1 w.heap.size 0 e.cs := by rw [hw1]; simpa using cellsAt_new w e.cs.toArray 46
  have HC := Lib.hid (show cellsAt w1 w.heap.size 0 (e.o.cs e.p e.c) from hC)
  have HV := Lib.hid (OpV.cs_kind (o := e.o) (p := e.p) (c := e.c) hC).2.2
  have HVO := Lib.hid (OpV.cs_kind (hO.of_block (hb1.block _ hko))).2.2
  have hksl : ks < w.heap.size := World.block_lt_of_cell? w _ hs
  have HKS := Lib.hid ((hb1.cell (p := ⟨ks, 0, none⟩) hksl).trans hs)
  have HKN := Lib.hid (hN.of_block (hb1.block _ hkn))
  have HD := Lib.hid (h.under hb1)
  have HIN := Lib.hid hI
  have HT1 := Lib.hid (hT.of_below hb1 hT.2.2)
  have HE := Lib.hid hE
  have HSR := Lib.hid (hsrc.below hb1 (Nat.le_refl _))
  have HNM := Lib.hid hnm
  obtain ⟨k1, hk1e⟩ : ∃ k, k = w.heap.size := ⟨_, rfl⟩
  rw [← hk1e] at HC HV
  have hko1 : ko < w1.heap.size := by omega
  have hks1 : ks < w1.heap.size := by omega
  have hkn1 : kn < w1.heap.size := by omega
  have hk11 : k1 < w1.heap.size := by omega
  obtain ⟨eo, heo⟩ : ∃ y, y = e.o := ⟨_, rfl⟩
  obtain ⟨ep, hep⟩ : ∃ y, y = e.p := ⟨_, rfl⟩
  obtain ⟨ec, hec⟩ : ∃ y, y = e.c := ⟨_, rfl⟩
  rw [← heo] at H38 HC HV HE HSR
  rw [← hep] at H38 HC HSR
  rw [← hec] at H38 HC
  rw [← heo]
  obtain ⟨xv, hxv⟩ : ∃ y, y = xo.d.value := ⟨_, rfl⟩
  obtain ⟨ev, hev⟩ : ∃ y, y = eo.d.value := ⟨_, rfl⟩
  rw [← hxv] at HVO
  rw [← hev] at HV
  clear hb1 hz hid hC hO hs hN h hI hT hE hsrc hnm heo hep hec hxv hev hko hksl hkn
  show Calls Tryz.prog 55 #[.agg e.cs.toArray, .pointer (some ⟨ko, 0, none⟩), .pointer (some ⟨ks, 0, none⟩), .pointer (some ⟨kn, 0, none⟩)] w _
  go_enter Tryz.func55, Tryz.ntmps55
  go_upto_region 1 with (refine wpList_boxAgg _ rfl 46 _ rfl e.cs.toArray (by rfl) ?_)
  rw [← hw1, ← hk1e]
  rw [← hk1e] at hk1
  clear hw1 hk1e
  by_cases hv : ev = xv
  · subst hv
    obtain ⟨NV, hNVa, hNVb⟩ : ∃ n, w1.heap.size ≤ n ∧ n ≤ w1.heap.size := ⟨_, Nat.le_refl _, Nat.le_refl _⟩
    refine wp_region_noPanic ?_
    refine wp_region_till 14 (fun w' => Below NV w1 w') (by kernel_rfl) (by kernel_rfl) ?_
    obtain ⟨wV, hwV⟩ : ∃ wQQ, wQQ = w1.drew := ⟨_, rfl⟩
    have hSwV : Below NV w1 wV := by rw [hwV]; exact (Below.refl NV w1).drew
    rw [← hwV]
    have HSV := Lib.hid hSwV
    have hzwV : w1.heap.size ≤ wV.heap.size := by rw [hwV]; exact Nat.le_refl _
    clear hwV hSwV
    go_simp
    refine Till.pure 0 rfl rfl (by kernel_rfl) (NoPanic.noFrame _) HSV.out ?_
    go_big_quiet_step (fail)
    refine wpQuiet_nil ?_
    refine Till.pure 1 rfl rfl (by kernel_rfl) (NoPanic.noFrame _) HSV.out ?_
    go_big_quiet_step (fail)
    refine wpQuiet_nil ?_
    refine Till.load 2 9 _ ⟨k1, 2, none⟩ (txt ev) rfl rfl rfl rfl (by kernel_rfl) (NoPanic.noFrame _) HSV.out (fun w' hw' => run_loadVar_one Tryz.underlying9 rfl ((hw'.cell (p := ⟨k1, 2, none⟩) (by show k1 < _; omega)).trans HV.out)) ?_
    go_simp
    refine Till.pure 3 rfl rfl (by kernel_rfl) (NoPanic.noFrame _) HSV.out ?_
    go_big_quiet_step (fail)
    refine wpQuiet_nil ?_
    refine Till.pure 4 rfl rfl (by kernel_rfl) (NoPanic.noFrame _) HSV.out ?_
    go_big_quiet_step (fail)
    refine wpQuiet_nil ?_
    refine Till.load 5 9 _ ⟨ko, 2, none⟩ (txt ev) rfl rfl rfl rfl (by kernel_rfl) (NoPanic.noFrame _) HSV.out (fun w' hw' => run_loadVar_one Tryz.underlying9 rfl ((hw'.cell (p := ⟨ko, 2, none⟩) (by show ko < _; omega)).trans HVO.out)) ?_
    go_simp
    refine Till.pure 6 rfl rfl (by kernel_rfl) (NoPanic.noFrame _) HSV.out ?_
    go_big_quiet_step (fail)
    refine wpQuiet_nil ?_
    refine Till.pure 7 rfl rfl (by kernel_rfl) (NoPanic.noFrame _) HSV.out ?_
    go_big_quiet_step (fail)
    refine wpQuiet_nil ?_
    refine Till.load 8 24 _ ⟨ks, 0, none⟩ (.pointer (some ⟨b, 0, none⟩)) rfl rfl rfl rfl (by kernel_rfl) (NoPanic.noFrame _) HSV.out (fun w' hw' => run_loadVar_one Tryz.underlying24 rfl ((hw'.cell (p := ⟨ks, 0, none⟩) (by show ks < _; omega)).trans HKS.out)) ?_
    go_simp
    refine Till.load 9 46 _ ⟨k1, 0, none⟩ (.agg (eo.cs ep ec).toArray) rfl rfl rfl rfl (by kernel_rfl) (NoPanic.noFrame _) HSV.out (fun w' hw' => run_loadAgg Tryz.underlying46 rfl (by rw [opInfo, H38.out]) (HC.out.of_block (hw'.block _ (by omega)))) ?_
    go_simp
    refine Till.load 12 31 _ ⟨kn, 0, none⟩ (idv nm) rfl rfl rfl rfl (by kernel_rfl) (NoPanic.noFrame _) HSV.out (fun w' hw' => run_loadAgg Tryz.underlying31 rfl (by rw [HI.out, bcs_length, HNM.out]) (HKN.out.of_block (hw'.block _ (by omega)))) ?_
    go_simp
    have HCN := Lib.hid (opname_any eo HE.out ep ec wV (HT1.out.of_below (HSV.out.mono hNVa) HT1.out.2.2) (HSR.out.below HSV.out hNVa))
    have HNE := Lib.hid (show (nameB eo).length = 32 from length_nameB eo)
    refine Till.act 10 rfl rfl (by kernel_rfl) rfl ?_
    intro K hK
    go_wp2_with (go_at_call 53; refine HCN.out.mono ?_; rintro e w2 ⟨rfl, hb2⟩)
    have hz2 := hb2.size
    have hS2 := HSV.out.trans (hb2.mono (by omega))
    refine hK _ _ hS2 ?_
    clear hK K
    go_simp
    have HS2 := Lib.hid hS2
    clear hS2 hb2
    have HCP := Lib.hid (past_any b mo mw mt B O W T (nameB eo) HNE.out w2 (HD.out.under (HS2.out.mono hNVa)) HIN.out hL)
    refine Till.act 11 rfl rfl (by kernel_rfl) rfl ?_
    intro K hK
    go_wp2_with (go_at_call 11; refine HCP.out.mono ?_; rintro e w3 ⟨vS, S, rfl, hSA, hSN, hSl, hoS, hb3⟩; obtain ⟨pS, cS, rfl⟩ := hoS.form)
    have hz3 := hb3.size
    have hS3 := HS2.out.trans (hb3.mono (by omega))
    refine hK _ _ hS3 ?_
    clear hK K
    go_simp
    have HS3 := Lib.hid hS3
    clear hS3 hb3
    obtain ⟨Y, hY⟩ : ∃ Y, Y = nsort S := ⟨_, rfl⟩
    rw [← hY] at hoS
    rw [← hY]
    have HYA := Lib.hid (show ∀ y ∈ Y, Anc (O.map E3.ent) (nameB eo) y from fun y hy => hSA y (by rw [hY] at hy; exact nsort_mem.1 hy))
    have HY32 := Lib.hid (show ∀ y ∈ Y, y.length = 32 from fun y hy => by
      obtain ⟨e3, he3, he4⟩ := List.mem_map.1 ((hasN_mem O y).1 (HIN.out.anc_in (HYA.out y hy)))
      rw [← he4]
      exact (HD.out.okO e3 he3).len)
    have hYl : Y.length ≤ 1000 := by rw [hY, (nsort_perm _).length_eq]; exact hSl
    have HCC := Lib.hid (idcont_any Y pS cS nm HNM.out w3 HY32.out (Owns.srcOf hoS) (by omega))
    clear hSA hSN hSl hoS hY
    refine Till.act 13 rfl rfl (by kernel_rfl) rfl ?_
    intro K hK
    go_wp2_with (go_at_call 56; refine HCC.out.mono ?_; rintro e w4 ⟨bb, rfl, hbb, hb4⟩)
    have hz4 := hb4.size
    have hS4 := HS3.out.trans (hb4.mono (by omega))
    refine hK _ _ hS4 ?_
    clear hK K
    go_simp
    have HS4 := Lib.hid hS4
    clear hS4 hb4
    refine Till.tail _ rfl rfl (by kernel_rfl) (by kernel_rfl) ?_
    have HFIN := Lib.hid (HB1.out.trans ((HS4.out.mono hNVa).mono HB1.out.size))
    have HBB := Lib.hid hbb
    clear hbb
    go_wp2
    refine NoPanic.normal ?_
    go_wp2
    go_ret
    exact ⟨bb, rfl, fun h => HYA.out nm (HBB.out h), HFIN.out⟩
  · have hne1 : (ev == xv) = false := beq_eq_false_iff_ne.2 hv
    have hne2 : ((⟨ev.toArray⟩ : ByteArray).toList == (⟨xv.toArray⟩ : ByteArray).toList) = false := by
      rw [ByteArray.toList_eq, ByteArray.toList_eq, beq_eq_false_iff_ne]
      exact hv
    clear hv
    obtain ⟨NV, hNVa, hNVb⟩ : ∃ n, w1.heap.size ≤ n ∧ n ≤ w1.heap.size := ⟨_, Nat.le_refl _, Nat.le_refl _⟩
    refine wp_region_noPanic ?_
    refine wp_region_till 14 (fun w' => Below NV w1 w') (by kernel_rfl) (by kernel_rfl) ?_
    obtain ⟨wV, hwV⟩ : ∃ wQQ, wQQ = w1.drew := ⟨_, rfl⟩
    have hSwV : Below NV w1 wV := by rw [hwV]; exact (Below.refl NV w1).drew
    rw [← hwV]
    have HSV := Lib.hid hSwV
    have hzwV : w1.heap.size ≤ wV.heap.size := by rw [hwV]; exact Nat.le_refl _
    clear hwV hSwV
    go_simp
    refine Till.pure 0 rfl rfl (by kernel_rfl) (NoPanic.noFrame _) HSV.out ?_
    go_big_quiet_step (fail)
    refine wpQuiet_nil ?_
    refine Till.pure 1 rfl rfl (by kernel_rfl) (NoPanic.noFrame _) HSV.out ?_
    go_big_quiet_step (fail)
    refine wpQuiet_nil ?_
    refine Till.load 2 9 _ ⟨k1, 2, none⟩ (txt ev) rfl rfl rfl rfl (by kernel_rfl) (NoPanic.noFrame _) HSV.out (fun w' hw' => run_loadVar_one Tryz.underlying9 rfl ((hw'.cell (p := ⟨k1, 2, none⟩) (by show k1 < _; omega)).trans HV.out)) ?_
    go_simp
    refine Till.pure 3 rfl rfl (by kernel_rfl) (NoPanic.noFrame _) HSV.out ?_
    go_big_quiet_step (fail)
    refine wpQuiet_nil ?_
    refine Till.pure 4 rfl rfl (by kernel_rfl) (NoPanic.noFrame _) HSV.out ?_
    go_big_quiet_step (fail)
    refine wpQuiet_nil ?_
    refine Till.load 5 9 _ ⟨ko, 2, none⟩ (txt xv) rfl rfl rfl rfl (by kernel_rfl) (NoPanic.noFrame _) HSV.out (fun w' hw' => run_loadVar_one Tryz.underlying9 rfl ((hw'.cell (p := ⟨ko, 2, none⟩) (by show ko < _; omega)).trans HVO.out)) ?_
    go_simp
    refine Till.pure 6 rfl rfl (by kernel_rfl) (NoPanic.noFrame _) HSV.out ?_
    go_big_quiet_step (fail)
    refine wpQuiet_nil ?_
    refine Till.pure 7 rfl rfl (by kernel_rfl) (NoPanic.noFrame _) HSV.out ?_
    go_big_quiet_step (fail)
    refine wpQuiet_nil ?_
    refine Till.pass 8 rfl (by rfl) (by kernel_rfl) (NoPanic.noFrame _) HSV.out ?_
    go_simp
    refine Till.pass 9 rfl (by rfl) (by kernel_rfl) (NoPanic.noFrame _) HSV.out ?_
    go_simp
    refine Till.pass 10 rfl (by rfl) (by kernel_rfl) (NoPanic.noFrame _) HSV.out ?_
    go_simp
    refine Till.pass 11 rfl (by rfl) (by kernel_rfl) (NoPanic.noFrame _) HSV.out ?_
    go_simp
    refine Till.pass 12 rfl (by rfl) (by kernel_rfl) (NoPanic.noFrame _) HSV.out ?_
    go_simp
    refine Till.pass 13 rfl (by rfl) (by kernel_rfl) (NoPanic.noFrame _) HSV.out ?_
    go_simp
    refine Till.tail _ rfl rfl (by kernel_rfl) (by kernel_rfl) ?_
    have HFIN := Lib.hid (HB1.out.trans ((HSV.out.mono hNVa).mono HB1.out.size))
    go_wp2
    refine NoPanic.normal ?_
    go_wp2
    go_ret
    exact ⟨_, rfl, fun h => (by cases h), HFIN.out⟩
end Go.Proofs.YtfoifdhcelcgiaaGreatDoor

/- views.Members: values that were added and not dropped, rising. -/
namespace Go.Proofs.YtfoifdhcelcgiaaGreatDoor
open Go Go.RowKit
open Go.Lib (compact)

/-- the values K that a set holds: each was added; and all that was added, where none knows of another -/
structure MemV (l : List NOp) (key : Tx) (K : List Tx) : Prop where
  real : ∀ v ∈ K, ∃ e ∈ l, pickO key [1] e = true ∧ e.2.d.value = v
  all : (∀ n x, ¬ Anc l n x) → K = ((rowL l).filter (pickO key [1])).map (·.2.d.value)
  len : K.length ≤ l.length
/-- of the first n -/
def MemQ (l R : List NOp) (n : Nat) (K : List Tx) : Prop := (∀ v ∈ K, ∃ e ∈ R.take n, e.2.d.value = v) ∧ ((∀ m x, ¬ Anc l m x) → K = (R.take n).map (·.2.d.value))
theorem MemQ.zero (l R : List NOp) : MemQ l R 0 [] := ⟨by simp, fun _ => by simp⟩
theorem MemQ.add {l R : List NOp} {n : Nat} {K : List Tx} {e : NOp} (h : MemQ l R n K) (he : R[n]? = some e) : MemQ l R (n + 1) (K ++ [e.2.d.value]) := by
  have ht : R.take (n + 1) = R.take n ++ [e] := by rw [List.take_add_one, he]; rfl
  refine ⟨fun v hv => ?_, fun hn => ?_⟩
  · rw [ht]
    rcases List.mem_append.1 hv with h1 | h1
    · obtain ⟨e', he', h2⟩ := h.1 v h1
      exact ⟨e', List.mem_append.2 (.inl he'), h2⟩
    · exact ⟨e, by simp, (List.mem_singleton.1 h1).symm⟩
  · rw [ht, h.2 hn, List.map_append]
    rfl
theorem MemQ.skip {l R : List NOp} {n : Nat} {K : List Tx} {e : NOp} (h : MemQ l R n K) (he : R[n]? = some e) (ha : ∃ m x, Anc l m x) : MemQ l R (n + 1) K := by
  have ht : R.take (n + 1) = R.take n ++ [e] := by rw [List.take_add_one, he]; rfl
  refine ⟨fun v hv => ?_, fun hn => ?_⟩
  · obtain ⟨e', he', h2⟩ := h.1 v hv
    exact ⟨e', by rw [ht]; exact List.mem_append.2 (.inl he'), h2⟩
  · obtain ⟨m, x, h1⟩ := ha
    exact absurd h1 (hn m x)
theorem MemQ.memV {l : List NOp} {key : Tx} {n : Nat} {K : List Tx} (h : MemQ l ((rowL l).filter (pickO key [1])) n K) (hn : n = ((rowL l).filter (pickO key [1])).length) (hK : K.length ≤ n) : MemV l key K := by
  have ht : ((rowL l).filter (pickO key [1])).take n = (rowL l).filter (pickO key [1]) := List.take_of_length_le (by omega)
  refine ⟨fun v hv => ?_, fun ha => ?_, ?_⟩
  · obtain ⟨e, he, h2⟩ := h.1 v hv
    rw [ht] at he
    exact ⟨e, rowL_mem.1 (List.mem_filter.1 he).1, (List.mem_filter.1 he).2, h2⟩
  · have := h.2 ha
    rwa [ht] at this
  · have h2 := List.length_filter_le (pickO key [1]) (rowL l)
    rw [rowL_length] at h2
    omega
theorem src_kind (w : World) (a : Int) (t : TypeId) : Src (w.alloc (.cells #[.int .i64 a] t)) (some ⟨w.heap.size, 0, none⟩) ([a].map (Value.int .i64)) := ⟨fun j u hj => ⟨w.heap.size, 0, rfl, by
  rw [Nat.zero_add, World.cell?_alloc_new]
  simpa using hj⟩⟩

set_option maxRecDepth 100000 in
set_option maxHeartbeats 16000000 in
theorem members_any (key : Tx) (b mo mw mt : Nat) (B : Nat → Prop) (O W : List E3) (T : List (Nm × Nat)) (w : World) (h : DagSet w b mo mw mt B O W T) (hI : DInv ⟨O.map E3.ent, W.map E3.ent⟩) (hL : O.length ≤ 1000) (hT : Tabs w) :
    Calls Tryz.prog 27 #[.pointer (some ⟨b, 0, none⟩), txt key] w fun e w' => ∃ p c K, e = .returned (.slice p (ascL K).length c) ∧ w'.ownsRow w.heap.size 9 1 (.slice p (ascL K).length c) (ascL K).length (scs (ascL K)) ∧ MemV (O.map E3.ent) key K ∧ Below w.heap.size w w' := by
  obtain ⟨hz, hid⟩ := info_two idInfo
  obtain ⟨hzo, _⟩ := info_two opZero
  obtain ⟨is, his, hsz0, hsz1, hsz2⟩ := info_parts strInfo
  have HI := Lib.hid hid
  have HZ := Lib.hid hz
  have HZO := Lib.hid hzo
  have HT := Lib.hid hT
  have HD := Lib.hid h
  have HIN := Lib.hid hI
  obtain ⟨w1, hw1⟩ : ∃ w1, w1 = w.alloc (.cells #[.pointer (some ⟨b, 0, none⟩)] 24) := ⟨_, rfl⟩
  obtain ⟨ks, hks⟩ : ∃ k, k = w.heap.size := ⟨_, rfl⟩
  have hb1 : Below w.heap.size w w1 := by rw [hw1]; exact (Below.refl _ w).alloc (Nat.le_refl _) _
  have hz1 := hb1.size
  have HB1 := Lib.hid hb1
  have hks1 : ks < w1.heap.size := by rw [hw1, hks]; simp
  have hcs : w1.cell? ⟨ks, 0, none⟩ = some (.pointer (some ⟨b, 0, none⟩)) := by rw [hw1, hks]; simp
  have HCS := Lib.hid hcs
  have eg : ∀ args w, (callFunc 55 args).run Tryz.prog w = .ok (.enter 55 args) w := enters_of Tryz.func55 (by kernel_rfl) rfl
  have HEG := Lib.hid eg
  have HOF := Lib.hid (fun (kinds : List Int) (pk : Option Addr) (ck : Nat) (wz : World) (hb : Below w.heap.size w wz) (hs : Src wz pk (kinds.map (Value.int .i64))) (hk : kinds.length ≤ 1000000000) => lineOf_any key kinds pk ck b mo mw mt B O W T wz (HD.out.under hb) HIN.out (by omega) hs hk)
  clear hz hid hzo hT h hI hb1 eg
  go_enter Tryz.func27, Tryz.ntmps27
  go_upto_region 2 with fail
  rw [← hw1, ← hks]
  rw [← hks] at HB1 HOF hz1
  have HKS := Lib.hid hks
  clear hw1 hks
  go_wp2_with fail
  refine (HOF.out [2] (some ⟨w1.heap.size, 0, none⟩) 1 (w1.alloc (.cells #[.int .i64 2] 3)) (HB1.out.alloc (by omega) _) (src_kind w1 2 _) (by simp)).mono ?_
  rintro e w3 ⟨vD, D, BD, rfl, hDE, hDO⟩
  obtain ⟨pD, cD, hpD⟩ := hDO.own.form
  subst hpD
  have HB13 := Lib.hid (show Below w1.heap.size w1 w3 from ((Below.refl _ w1).alloc (Nat.le_refl _) _).trans (hDO.below.mono (by simp)))
  have hz3 := HB13.out.size
  have hcs3 : w3.cell? ⟨ks, 0, none⟩ = some (.pointer (some ⟨b, 0, none⟩)) := (HB13.out.cell (p := ⟨ks, 0, none⟩) hks1).trans HCS.out
  have HBw3 := Lib.hid (HB1.out.trans (HB13.out.mono (by omega)))
  clear hcs
  go_wp2_with fail
  refine (HOF.out [1] (some ⟨w3.heap.size, 0, none⟩) 1 (w3.alloc (.cells #[.int .i64 1] 3)) (HBw3.out.alloc (by omega) _) (src_kind w3 1 _) (by simp)).mono ?_
  rintro e w4 ⟨vA, A, BA, rfl, hAE, hAO⟩
  obtain ⟨pA, cA, hpA⟩ := hAO.own.form
  subst hpA
  have HB34 := Lib.hid (show Below w3.heap.size w3 w4 from ((Below.refl _ w3).alloc (Nat.le_refl _) _).trans (hAO.below.mono (by simp)))
  have hz4 := HB34.out.size
  have HBw4 := Lib.hid (HBw3.out.trans (HB34.out.mono (by omega)))
  have HCS4 := Lib.hid ((HB34.out.cell (p := ⟨ks, 0, none⟩) (by show ks < _; omega)).trans hcs3)
  have HSD := Lib.hid ((Owns.srcOf hDO.own).below HB34.out (Nat.le_refl _))
  have HD38 := Lib.hid hDO.cs38
  have HDOK := Lib.hid (show ∀ e ∈ D, e.Ok w4 BD from fun e he => (hDO.okR e he).keeps hz4 (fun i hi _ => HB34.out.block i hi))
  have HSA := Lib.hid (Owns.srcOf hAO.own)
  have HA38 := Lib.hid hAO.cs38
  have HAOK := Lib.hid hAO.okR
  have HAE := Lib.hid hAE
  have hDl : D.length ≤ 1000 := by
    have h1 := congrArg List.length hDE
    rw [List.length_map] at h1
    have h2 := List.length_filter_le (pickO key [2]) (rowL (O.map E3.ent))
    rw [rowL_length, List.length_map] at h2
    omega
  have hAl : A.length ≤ 1000 := by
    have h1 := congrArg List.length hAE
    rw [List.length_map] at h1
    have h2 := List.length_filter_le (pickO key [1]) (rowL (O.map E3.ent))
    rw [rowL_length, List.length_map] at h2
    omega
  clear hDE hDO hAE hAO hcs3
  go_upto_region 4 with fail
  go_loopw [5, 20] (fun v i wr => ∃ (n : Nat) (K : List Tx), n ≤ A.length ∧ i = .int .i64 n ∧ K.length ≤ n ∧ Hid (MemQ (O.map E3.ent) (A.map E3.ent) n K) ∧ Hid (wr.ownsRow w4.heap.size 9 1 v K.length (scs K)) ∧ Hid (Below w4.heap.size w4 wr)) (fun _ i _ => A.length - (intOf i).toNat)
  case atStart => exact ⟨0, [], by omega, rfl, by simp, Lib.hid (MemQ.zero _ _), Lib.hid (orow_nil _ _ _ _), Lib.hid (Below.refl _ _)⟩
  case round =>
    obtain ⟨n, K, hn1, rfl, hKl, HK, HOW, HB⟩ := hrel
    have hzr := HB.out.size
    by_cases hlt : n < A.length
    · obtain ⟨ex, gx, ox, hx1, _, hx3, hpx, hx4⟩ := op_at (HSA.out.below HB.out (Nat.le_refl _)).at_ HA38.out hlt
      subst hpx
      have HEX := Lib.hid ((HAOK.out ex hx3).keeps HB.out.size (fun i hi _ => HB.out.block i hi))
      obtain ⟨xo, hxo⟩ : ∃ y, y = ex.o := ⟨_, rfl⟩
      obtain ⟨xp, hxp⟩ : ∃ y, y = ex.p := ⟨_, rfl⟩
      obtain ⟨xc, hxc⟩ : ∃ y, y = ex.c := ⟨_, rfl⟩
      have hcs : ex.cs = xo.cs xp xc := by rw [hxo, hxp, hxc]; rfl
      have HEn := Lib.hid (show (A.map E3.ent)[n]? = some (ex.n, xo) by rw [List.getElem?_map, hx1, hxo]; rfl)
      have HCx := Lib.hid (show cellsAt wr gx (ox + n * 38) (xo.cs xp xc) by rw [← hcs]; exact hx4)
      have H38x := Lib.hid (show (xo.cs xp xc).length = 38 by rw [← hcs]; exact HA38.out ex hx3)
      have HXOK := Lib.hid (show xo.Ok ∧ Src wr xp (pcs xo.preds) by rw [hxo, hxp]; exact ⟨HEX.out.ok, HEX.out.src⟩)
      have HON := Lib.hid (OpV.cs_one xo xp xc)
      have HOZ := Lib.hid (show (zeroOp.cs none 0).toArray.size = (xo.cs xp xc).toArray.size by rw [List.size_toArray, List.size_toArray, H38x.out]; rfl)
      clear hcs hxo hxp hxc hx1 hx3 hx4
      go_upto_region 6 with (first
        | (refine wpList_loadAgg _ rfl 46 _ rfl _ Tryz.underlying46 rfl gx (ox + n * 38) (by rfl) (xo.cs xp xc) (by rw [opInfo, H38x.out]) HCx.out ?_)
        | (refine wpList_allocZ _ rfl 46 rfl _ HZO.out ?_)
        | (refine wpList_storeNew _ wr rfl 46 _ _ rfl (zeroOp.cs none 0).toArray rfl (by rfl) (xo.cs xp xc).toArray (by rfl) (by rw [opInfo, List.size_toArray, H38x.out]) HOZ.out (by simpa using HON.out) ?_))
      obtain ⟨w6, hw6⟩ : ∃ w6, w6 = wr.alloc (.cells (xo.cs xp xc).toArray 46) := ⟨_, rfl⟩
      rw [← hw6]
      obtain ⟨k6, hk6⟩ : ∃ k, k = wr.heap.size := ⟨_, rfl⟩
      rw [← hk6]
      have hb6 : Below wr.heap.size wr w6 := by rw [hw6]; exact (Below.refl _ wr).alloc (Nat.le_refl _) _
      have hz6 := hb6.size
      have hk66 : k6 < w6.heap.size := by rw [hw6, hk6]; simp
      have HC6 := Lib.hid (show cellsAt w6 k6 0 (xo.cs xp xc) by rw [hw6, hk6]; simpa using cellsAt_new wr (xo.cs xp xc).toArray 46)
      have HB46 := Lib.hid (HB.out.trans (hb6.mono hzr))
      have HB6 := Lib.hid hb6
      have HT6 := Lib.hid (HT.out.of_below (show Below w.heap.size w w6 by rw [← HKS.out]; exact HBw4.out.trans (HB46.out.mono (by omega))) HT.out.2.2)
      have HCN := Lib.hid (opname_any xo HXOK.out.1 xp xc w6 HT6.out (HXOK.out.2.below hb6 (Nat.le_refl _)))
      obtain ⟨nm, hnm⟩ : ∃ nm, nm = nameB xo := ⟨_, rfl⟩
      rw [← hnm] at HCN
      have HN32 := Lib.hid (show nm.length = 32 by rw [hnm]; exact length_nameB xo)
      have HZN := Lib.hid (show (fillB [] 32).size = (bcs nm).toArray.size by rw [show (bcs nm).toArray.size = (bcs nm).length from rfl, bcs_length, HN32.out]; rfl)
      clear hw6 hk6 hb6 hnm
      go_upto_region 7 with (first
        | (refine wpList_loadAgg _ rfl 46 _ rfl _ Tryz.underlying46 rfl k6 0 (by rfl) (xo.cs xp xc) (by rw [opInfo, H38x.out]) HC6.out ?_)
        | (go_at_call 53; refine HCN.out.mono ?_; rintro e w7 ⟨rfl, hb7⟩)
        | (refine wpList_allocZ _ rfl 31 rfl _ HZ.out ?_)
        | (refine wpList_storeNew _ w7 rfl 31 _ _ rfl (fillB [] 32) rfl (by rfl) (bcs nm).toArray (by rfl) (by rw [HI.out, List.size_toArray, bcs_length, HN32.out]) HZN.out (by simpa using bcs_one nm) ?_))
      obtain ⟨w8, hw8⟩ : ∃ w8, w8 = w7.alloc (.cells (bcs nm).toArray 31) := ⟨_, rfl⟩
      rw [← hw8]
      obtain ⟨k8, hk8⟩ : ∃ k, k = w7.heap.size := ⟨_, rfl⟩
      rw [← hk8]
      have hb8 : Below w7.heap.size w7 w8 := by rw [hw8]; exact (Below.refl _ w7).alloc (Nat.le_refl _) _
      have hz7 := hb7.size
      have hz8 := hb8.size
      have hk88 : k8 < w8.heap.size := by rw [hw8, hk8]; simp
      have HN8 := Lib.hid (show cellsAt w8 k8 0 (bcs nm) by rw [hw8, hk8]; simpa using cellsAt_new w7 (bcs nm).toArray 31)
      have hb68 := hb7.trans (hb8.mono hz7)
      have HC8 := Lib.hid (HC6.out.of_block (hb68.block _ hk66))
      have HBr8 := Lib.hid (HB6.out.trans (hb68.mono hz6))
      have HB48 := Lib.hid (HB46.out.trans (hb68.mono HB46.out.size))
      have hz48 := HB48.out.size
      have hk68 : k6 < w8.heap.size := by omega
      have hks4 : ks < w4.heap.size := by omega
      have HBw8 := Lib.hid (show Below w.heap.size w w8 by rw [← HKS.out]; exact HBw4.out.trans (HB48.out.mono (by omega)))
      have HCF := Lib.hid (opcontR_any pD cD D w8 (HSD.out.below HB48.out (Nat.le_refl _)) HD38.out 55 #[.pointer (some ⟨k6, 0, none⟩), .pointer (some ⟨ks, 0, none⟩), .pointer (some ⟨k8, 0, none⟩)] HEG.out (fun d => ∃ m x, Anc (O.map E3.ent) m x) (fun Wz hWz d hd => by
        have hB4z := HB48.out.trans (hWz.mono hz48)
        have hok := (HDOK.out d hd).keeps hB4z.size (fun i hi _ => hB4z.block i hi)
        have hBwz := HBw8.out.trans (hWz.mono HBw8.out.size)
        exact (memclo_any b mo mw mt B O W T nm HN32.out xo xp xc k6 ks k8 d Wz (HD.out.under hBwz) HIN.out hL (HT.out.of_below hBwz HT.out.2.2) (HC8.out.of_block (hWz.block _ hk68)) (Nat.lt_of_lt_of_le hk68 hWz.size) ((hB4z.cell (p := ⟨ks, 0, none⟩) hks4).trans HCS4.out) (HN8.out.of_block (hWz.block _ hk88)) (Nat.lt_of_lt_of_le hk88 hWz.size) hok.ok hok.src).mono fun e' w' ⟨bb, h1, h2, h3⟩ => ⟨bb, h1, fun h => ⟨_, _, h2 h⟩, h3⟩) (by omega))
      clear hw8 hk8 hb8 hb68 hb7
      go_upto_region 8 with (go_at_call 54; refine HCF.out.mono ?_; rintro e w9 ⟨bb, rfl, hbb, hb9⟩)
      have hz9 := hb9.size
      have HB49 := Lib.hid (HB48.out.trans (hb9.mono hz48))
      have HBr9 := Lib.hid (HBr8.out.trans (hb9.mono HBr8.out.size))
      have HC9 := Lib.hid (HC8.out.of_block (hb9.block _ hk68))
      have HO9 := Lib.hid (orow_under HOW.out HBr9.out)
      have HBB := Lib.hid hbb
      have hz49 := HB49.out.size
      clear hbb hb9
      cases bb with
      | true =>
        go_wp2
        go_roundw
        case rel => exact ⟨n + 1, K, by omega, by go_num, by omega, Lib.hid (HK.out.skip HEn.out (let ⟨_, _, h⟩ := HBB.out (by first | rfl | trivial); h)), HO9, HB49⟩
        case measure => simp [intOf] <;> omega
      | false =>
        have hcv := (OpV.cs_kind HC9.out).2.2
        obtain ⟨xv, hxv⟩ : ∃ y, y = xo.d.value := ⟨_, rfl⟩
        rw [← hxv] at hcv
        have HXV := Lib.hid hxv
        clear hxv
        go_wp2_with (at_builtin; refine wpList_append_src rfl _ _ 51 rfl w4.heap.size 9 is _ 1 16 Tryz.underlying51 his hsz0 hsz1 hsz2 (by rfl) (by omega) u5 K.length (scs K) (by rfl) (orow_under HO9.out ((Below.refl _ _).alloc (Nat.le_refl _) _)) (some ⟨w9.heap.size, 0, none⟩) 1 1 (scs [xv]) (by rfl) (by rfl) (src_new w9 (scs [xv]) 9) (fun a e => by cases e; rfl) (scs_one _) (by unfold maxLen; omega) (by omega) (by rw [World.size_alloc]; omega) ?_; intro vz wz hownz hgz hsz)
        have HBz := Lib.hid ((HB49.out.alloc (by omega) (.cells #[txt xv] 9)).grown hgz (by rw [World.size_alloc]; omega) (fun k e => (orow_lt HO9.out e).1))
        have HOz := Lib.hid (show wz.ownsRow w4.heap.size 9 1 vz (K ++ [xv]).length (scs (K ++ [xv])) by
          rw [List.length_append]
          simpa [scs] using hownz)
        have HKz := Lib.hid (show MemQ (O.map E3.ent) (A.map E3.ent) (n + 1) (K ++ [xv]) by rw [HXV.out]; exact HK.out.add HEn.out)
        clear hownz hgz hsz hcv
        go_roundw
        case rel => exact ⟨n + 1, K ++ [xv], by omega, by go_num, by simp; omega, HKz, HOz, HBz⟩
        case measure => simp [intOf] <;> omega
    · obtain rfl : n = A.length := by omega
      obtain ⟨p5, c5, hp5⟩ := (Owns.of HOW.out).form
      subst hp5
      have HKE := Lib.hid (show compact (tsort K) = ascL K from rfl)
      have HMV := Lib.hid (show MemV (O.map E3.ent) key K from by
        have h1 := HK.out
        rw [HAE.out] at h1
        exact h1.memV (by rw [← HAE.out, List.length_map]) hKl)
      have htl : (tsort K).length = K.length := (tsort_perm K).length_eq
      have HCS' := Lib.hid (sortT_any K p5 c5 w4.heap.size wr HOW.out (by omega))
      go_wp2_with (first
        | (go_at_call 51; refine HCS'.out.mono ?_; rintro e w2 ⟨rfl, ho2, hb2⟩; rw [← htl] at ho2; have HCC := Lib.hid (compactT_any (tsort K) p5 c5 w4.heap.size w2 ho2 (by omega)); rw [htl] at HCC)
        | (go_at_call 52; refine HCC.out.mono ?_; rintro e w3 ⟨rfl, ho3, hb3⟩))
      go_ret
      rw [HKE.out] at ho3 ⊢
      exact ⟨p5, c5, K, rfl, orow_down ho3 (by have := HKS.out; omega), HMV.out, (by
        have h1 := (HB.out.trans (hb2.trans (hb3.mono (Nat.le_refl _))))
        have h2 := HBw4.out
        rw [HKS.out] at h2
        exact h2.trans (h1.mono h2.size))⟩
end Go.Proofs.YtfoifdhcelcgiaaGreatDoor

/- views.Value: the last that was put into a register. -/
namespace Go.Proofs.YtfoifdhcelcgiaaGreatDoor
open Go Go.RowKit

/-- the last one's value; is there one? -/
def lastV (L : List NOp) : Tx × Bool := ((L.getLast?.map fun e => (e.2.d.value, true))).getD ([], false)
theorem lastV_nil : lastV [] = ([], false) := rfl
theorem lastV_at {L : List NOp} {e : NOp} (h : L[L.length - 1]? = some e) : lastV L = (e.2.d.value, true) := by
  unfold lastV
  rw [List.getLast?_eq_getElem?, h]
  rfl
theorem OpV.cs_two (o : OpV) (p : Option Addr) (c : Nat) : (o.cs p c)[2]? = some (txt o.d.value) := rfl
theorem src_three (w : World) (t : TypeId) : Src (w.alloc (.cells #[.int .i64 3] t)) (some ⟨w.heap.size, 0, none⟩) ([3].map (Value.int .i64)) := ⟨fun j u hj => ⟨w.heap.size, 0, rfl, by
  rw [Nat.zero_add, World.cell?_alloc_new]
  simpa using hj⟩⟩
set_option maxRecDepth 100000 in
set_option maxHeartbeats 8000000 in
theorem value_any (key : Tx) (b mo mw mt : Nat) (B : Nat → Prop) (O W : List E3) (T : List (Nm × Nat)) (w : World) (h : DagSet w b mo mw mt B O W T) (hI : DInv ⟨O.map E3.ent, W.map E3.ent⟩) (hL : O.length ≤ 1000) :
    Calls Tryz.prog 29 #[.pointer (some ⟨b, 0, none⟩), txt key] w fun e w' => e = .returned (.tuple #[txt (lastV ((rowL (O.map E3.ent)).filter (pickO key [3]))).1, .bool (lastV ((rowL (O.map E3.ent)).filter (pickO key [3]))).2]) ∧ Below w.heap.size w w' := by
  have HB1 := Lib.hid (show Below w.heap.size w (w.alloc (.cells #[.int .i64 3] 3)) from (Below.refl _ w).alloc (Nat.le_refl _) _)
  have HOF := Lib.hid (lineOf_any key [3] (some ⟨w.heap.size, 0, none⟩) 1 b mo mw mt B O W T (w.alloc (.cells #[.int .i64 3] 3)) (h.under HB1.out) hI (by omega) (src_three w _) (by simp))
  obtain ⟨L, hL0⟩ : ∃ L, L = (rowL (O.map E3.ent)).filter (pickO key [3]) := ⟨_, rfl⟩
  have hLl : L.length ≤ 1000 := by
    have h2 := List.length_filter_le (pickO key [3]) (rowL (O.map E3.ent))
    rw [rowL_length, List.length_map, ← hL0] at h2
    omega
  rw [← hL0] at HOF
  rw [← hL0]
  clear h hI hL0
  go_enter Tryz.func29, Tryz.ntmps29
  go_upto_region 2 with (go_at_call 18; refine HOF.out.mono ?_; rintro e w3 ⟨vR, R, BR, rfl, hRE, hRO⟩; obtain ⟨pR, cR, hpR⟩ := hRO.own.form; subst hpR)
  have HB := Lib.hid (HB1.out.trans (hRO.below.mono HB1.out.size))
  have hRl : R.length = L.length := by rw [← hRE, List.length_map]
  by_cases h0 : R.length = 0
  · have hR0 : R = [] := List.eq_nil_of_length_eq_zero h0
    subst hR0
    have hLe : L = [] := by rw [← hRE]; rfl
    clear hRE hRO hRl hLl
    subst hLe
    go_wp2
    go_ret2
    exact ⟨rfl, HB.out⟩
  · have hne : ((R.length : Int) == 0) = false := beq_eq_false_iff_ne.2 (by omega)
    obtain ⟨m, hm⟩ : ∃ m, R.length = m + 1 := ⟨R.length - 1, by omega⟩
    obtain ⟨ex, gx, ox, hx1, _, hx3, hpx, hx4⟩ := op_at hRO.own.srcOf.at_ hRO.cs38 (show m < R.length by omega)
    subst hpx
    have HLV := Lib.hid (show lastV L = (ex.o.d.value, true) from by
      refine lastV_at (e := ex.ent) ?_
      rw [← hRE, List.length_map, show R.length - 1 = m by omega, List.getElem?_map, hx1]
      rfl)
    have hcv : w3.cell? ⟨gx, ox + (R.length - 1) * 38 + 2, none⟩ = some (txt ex.o.d.value) := by
      rw [show R.length - 1 = m by omega]
      exact hx4 2 _ (OpV.cs_two ex.o ex.p ex.c)
    have hRb : R.length ≤ 1000 := by omega
    have hpos : 0 < R.length := by omega
    obtain ⟨xv, hxv⟩ : ∃ y, y = ex.o.d.value := ⟨_, rfl⟩
    rw [← hxv] at hcv HLV
    clear hRE hRO hx1 hx3 hx4 hxv h0 hm hRl hLl
    go_wp2
    go_ret2
    rw [HLV.out]
    exact ⟨rfl, HB.out⟩
end Go.Proofs.YtfoifdhcelcgiaaGreatDoor

/- What the guard 'alive' of the views' laws does, by the law of a set. -/
namespace Go.Proofs.YtfoifdhcelcgiaaGreatDoor
open Go

def opV1 : OpV := ⟨⟨1, [107], [120], zeroId⟩, 0, 1, []⟩
def opV2 : OpV := ⟨⟨2, [107], [120], zeroId⟩, 0, 1, []⟩
def nmV1 : List UInt8 := [112, 18, 148, 150, 250, 46, 204, 198, 175, 54, 251, 9, 136, 191, 252, 90, 37, 213, 64, 214, 188, 239, 164, 38, 164, 131, 91, 7, 26, 151, 187, 144]
def nmV2 : List UInt8 := [205, 47, 196, 81, 19, 186, 110, 93, 145, 189, 155, 28, 248, 22, 177, 105, 5, 29, 28, 29, 217, 31, 60, 198, 68, 122, 25, 220, 87, 216, 91, 251]
set_option maxRecDepth 100000 in
theorem v1_sha : shaF (listB [[111, 112], opV1.text]) = nmV1 := by decide +kernel
set_option maxRecDepth 100000 in
theorem v2_sha : shaF (listB [[111, 112], opV2.text]) = nmV2 := by decide +kernel
theorem v1_eq : nameB opV1 = nmV1 := (shaF_eq _).symm.trans v1_sha
theorem v2_eq : nameB opV2 = nmV2 := (shaF_eq _).symm.trans v2_sha
theorem v12_ne : nameB opV1 ≠ nameB opV2 := by
  rw [v1_eq, v2_eq]
  decide
theorem opV1_good : opV1.Good := ⟨by decide, by decide, by decide, by decide, by decide, by decide, fun i x y h => by simp [opV1] at h⟩
theorem opV2_good : opV2.Good := ⟨by decide, by decide, by decide, by decide, by decide, by decide, fun i x y h => by simp [opV2] at h⟩
def setV : List NOp := [(nameB opV1, opV1), (nameB opV2, opV2)]
theorem lv1 : takeD ⟨[], []⟩ opV1 = (⟨[(nameB opV1, opV1)], []⟩, [nameB opV1], 0) := by
  unfold takeD
  rw [if_pos opV1_good]
  rfl
theorem lv2 : takeD ⟨[(nameB opV1, opV1)], []⟩ opV2 = (⟨setV, []⟩, [nameB opV2], 0) := by
  have hb : hasN [(nameB opV1, opV1)] (nameB opV2) = false := by
    simp only [hasN, List.any_cons, List.any_nil, Bool.or_false, decide_eq_false_iff_not]
    exact v12_ne
  unfold takeD
  rw [if_pos opV2_good, if_neg (by rw [hb]; decide), if_neg (by decide), if_pos (by decide)]
  rfl
theorem lv_nopred (n x : Nm) : x ∉ predsAt setV n := fun h => by
  obtain ⟨o, ho, hx⟩ := pred_op h
  have h1 := opAt_some ho
  simp only [setV, List.mem_cons, List.not_mem_nil, or_false, Prod.mk.injEq] at h1
  rcases h1 with ⟨_, rfl⟩ | ⟨_, rfl⟩ <;> simp [opV1, opV2] at hx
theorem lv_noanc (n x : Nm) : ¬ Anc setV n x := fun h => by
  cases h with
  | step h1 => exact lv_nopred _ _ h1
  | more _ h1 => exact lv_nopred _ _ h1
theorem lv_mem {K : List Tx} (h : MemV setV [107] K) : ascL K = [[120]] := by
  have hs : (setV.filter (pickO [107] [1])).map (·.2.d.value) = [[120]] := by simp [setV, pickO, opV1, opV2]
  have hp : (((rowL setV).filter (pickO [107] [1])).map (·.2.d.value)).Perm ((setV.filter (pickO [107] [1])).map (·.2.d.value)) := ((rowL_perm setV).filter _).map _
  rw [hs] at hp
  rw [h.all lv_noanc, List.perm_singleton.1 hp]
  exact strict_unique (ascL_strict _) (by simp) (fun x => ascL_mem)
end Go.Proofs.YtfoifdhcelcgiaaGreatDoor

/- The guard 'alive' of the views' laws holds. -/
namespace Go.Proofs.YtfoifdhcelcgiaaGreatDoor
open Go Go.RowKit

section
variable {P : Program} (w : World) {ops : Array Oper} {rest : List Oper} {o : Oper} {a : Act} {Q : Exit → Act → World → Prop}
theorem wpList_buildThree (hg : o.guard = none) (t : TypeId) (i0 i1 i2 : Nat) (x0 x1 x2 : Operand) (hop : o.op = .build t #[(i0, x0), (i1, x1), (i2, x2)]) (v0 v1 v2 Z : Value) (h0 : a.eval x0 = v0) (h1 : a.eval x1 = v1) (h2 : a.eval x2 = v2)
    (hz : (Instr.build t #[(i0, v0), (i1, v1), (i2, v2)]).run P w = .ok Z w) (h : wpList P ops Q rest (a.put o.dst Z) w) : wpList P ops Q (o :: rest) a w := by
  refine wpList_plain hg fun K' hK' => ?_
  unfold Oper.wp execOp
  simp only [hop, List.map_toArray, List.map_cons, List.map_nil, h0, h1, h2, Sem.run_bind, hz, Result.andThen_ok, Sem.run_pure]
  exact hK' _ _ h
end
def dV1 : Dr := ⟨1, [107], [120], zeroId⟩
def dV2 : Dr := ⟨2, [107], [120], zeroId⟩
theorem build_dV1 (w : World) : (Instr.build 44 #[(0, .int .i64 1), (1, .string ⟨#[107]⟩), (2, .string ⟨#[120]⟩)]).run Tryz.prog w = .ok (drv dV1) w := by kernel_rfl
theorem build_dV2 (w : World) : (Instr.build 44 #[(0, .int .i64 2), (1, .string ⟨#[107]⟩), (2, .string ⟨#[120]⟩)]).run Tryz.prog w = .ok (drv dV2) w := by kernel_rfl
theorem build_opV1 (w : World) : (Instr.build 46 #[(0, drv dV1), (2, .int .i64 1)]).run Tryz.prog w = .ok (.agg (opV1.cs none 0).toArray) w := by kernel_rfl
theorem build_opV2 (w : World) : (Instr.build 46 #[(0, drv dV2), (2, .int .i64 1)]).run Tryz.prog w = .ok (.agg (opV2.cs none 0).toArray) w := by kernel_rfl
theorem dV1_ok : dV1.Ok := ⟨by decide, by decide, rfl, by decide, by decide⟩
theorem dV2_ok : dV2.Ok := ⟨by decide, by decide, rfl, by decide, by decide⟩
theorem opV1_ok : opV1.Ok := ⟨dV1_ok, by decide, by decide, by decide, by decide, by simp [opV1], by decide⟩
theorem opV2_ok : opV2.Ok := ⟨dV2_ok, by decide, by decide, by decide, by decide, by simp [opV2], by decide⟩

set_option maxRecDepth 100000 in
set_option maxHeartbeats 16000000 in
theorem alive12_any (w : World) (hT : Tabs w) : Calls Tryz.prog 25 #[] w fun e w' => e = .returned (.bool true) ∧ Below w.heap.size w w' := by
  have HT := Lib.hid hT
  clear hT
  go_enter Tryz.func25, Tryz.ntmps25
  go_upto_region 2 with (go_at_call 32; refine (dnew_any w).mono ?_; rintro e w1 ⟨b, mo, mw, mt, rfl, hd1, hb1⟩)
  have hz1 := hb1.size
  have HB1 := Lib.hid hb1
  have hm1 : mo < w1.heap.size ∧ mw < w1.heap.size ∧ mt < w1.heap.size ∧ w.heap.size ≤ mo ∧ w.heap.size ≤ mw ∧ w.heap.size ≤ mt := ⟨hd1.ops.lt, hd1.wait.lt, hd1.out.lt, hd1.inB.2.1, hd1.inB.2.2.1, hd1.inB.2.2.2⟩
  have hcl := take_any b mo mw mt _ [] [] [] opV1 opV1_ok none 0 w1 (HT.out.of_below HB1.out HT.out.2.2) hd1.cut DInv.nil (src_none _ _) (by simp) (fun i hi => by have := hi.2; omega)
  simp only [List.map_nil, lv1] at hcl
  have HCL := Lib.hid hcl
  have hkS : ∀ i, threeB mo mw mt i → w.heap.size ≤ i ∧ i < w1.heap.size := fun i hi => by
    rcases hi with rfl | rfl | rfl <;> omega
  clear hd1 hb1 hcl
  go_upto_region 3 with (first
    | (refine wpList_buildThree _ rfl 44 0 1 2 _ _ _ rfl (.int .i64 1) (.string ⟨#[107]⟩) (.string ⟨#[120]⟩) _ (by rfl) (by rfl) (by rfl) (build_dV1 _) ?_)
    | (refine wpList_buildTwo _ rfl 46 0 2 _ _ rfl (drv dV1) (.int .i64 1) _ (by rfl) (by rfl) (build_opV1 _) ?_)
    | (go_at_call 33; refine HCL.out.mono ?_; rintro e w5 ⟨v1, B1, O1, W1, T1, rfl, hO1, hW1, hD1, hBB1, hv1, hk1⟩))
  have hz5 := hk1.size
  have hI1 : DInv ⟨O1.map E3.ent, W1.map E3.ent⟩ := by
    have := DInv.nil.take opV1
    rw [lv1] at this
    rw [hO1, hW1]
    exact this
  have HB5 := Lib.hid (HB1.out.trans (hk1.toBelow (by omega) (fun i hi h => by have := (hkS _ h).1; omega)))
  have hlO : O1.length + W1.length ≤ 900 := by rw [len_ent' hO1, len_ent' hW1]; simp
  have hcl := take_any b mo mw mt B1 O1 W1 T1 opV2 opV2_ok none 0 w5 (HT.out.of_below HB5.out HT.out.2.2) hD1 hI1 (src_none _ _) hlO (fun i hi => (hBB1 i hi).2)
  rw [hO1, hW1] at hcl
  simp only [lv2] at hcl
  have HCL2 := Lib.hid hcl
  have hI2 : DInv ⟨setV, []⟩ := by
    have := hI1.take opV2
    rw [hO1, hW1] at this
    simp only [lv2] at this
    exact this
  have HI2 := Lib.hid hI2
  clear hcl hD1 hI1 hO1 hW1 hBB1 hv1 hk1 hlO hI2
  go_upto_region 4 with (first
    | (refine wpList_buildThree _ rfl 44 0 1 2 _ _ _ rfl (.int .i64 2) (.string ⟨#[107]⟩) (.string ⟨#[120]⟩) _ (by rfl) (by rfl) (by rfl) (build_dV2 _) ?_)
    | (refine wpList_buildTwo _ rfl 46 0 2 _ _ rfl (drv dV2) (.int .i64 1) _ (by rfl) (by rfl) (build_opV2 _) ?_)
    | (go_at_call 33; refine HCL2.out.mono ?_; rintro e w6 ⟨v2, B2, O2, W2, T2, rfl, hO2, hW2, hD2, hBB2, hv2, hk2⟩))
  have hz6 := hk2.size
  have HB6 := Lib.hid (HB5.out.trans (hk2.toBelow (by omega) (fun i hi h => by have := (hkS _ h).1; omega)))
  have HO2 := Lib.hid hO2
  have HIN2 := Lib.hid (show DInv ⟨O2.map E3.ent, W2.map E3.ent⟩ by rw [hO2, hW2]; exact HI2.out)
  have hlO2 : O2.length ≤ 1000 := by rw [len_ent' hO2]; simp [setV]
  have HCM := Lib.hid (members_any [107] b mo mw mt B2 O2 W2 T2 w6 hD2 HIN2.out hlO2 (HT.out.of_below HB6.out HT.out.2.2))
  clear hD2 hO2 hW2 hBB2 hv2 hk2 hkS
  go_upto_region 5 with (go_at_call 27; refine HCM.out.mono ?_; rintro e w7 ⟨p, c, K, rfl, ho, hmv, hb7⟩; have hk : ascL K = [[120]] := lv_mem (by rw [HO2.out] at hmv; exact hmv); rw [hk] at ho; rw [show (ascL K).length = 1 by rw [hk]; rfl])
  obtain ⟨x, g, off, hx1, hxp, hx3, hx4⟩ := scs_at (K := [[120]]) (n := 0) (Owns.srcOf (Owns.of ho)) (by simp)
  subst hxp
  obtain rfl : [120] = x := by simpa using hx1
  have hcx : w7.cell? ⟨g, off, none⟩ = some (.string ⟨#[120]⟩) := hx4
  have HB7 := Lib.hid (HB6.out.trans (hb7.mono HB6.out.size))
  clear ho hmv hb7 hx1 hx4 hk
  go_wp2
  go_ret
  exact ⟨rfl, HB7.out⟩
end Go.Proofs.YtfoifdhcelcgiaaGreatDoor

/- tribunallaw12.real: there is an operation of a kind, a key, and a value. -/
namespace Go.Proofs.YtfoifdhcelcgiaaGreatDoor
open Go Go.RowKit

set_option maxRecDepth 100000 in
set_option maxHeartbeats 8000000 in
theorem real_any (kind : Int) (key val : Tx) (b : Nat) (vo vw vn vm : Value) (F B : Nat → Prop) (O W : List E3) (w : World) (h : RefSet w b vo vw vn vm F B O W) (hL : O.length ≤ 1000) (hex : ∃ e ∈ O, e.o.d.kind = kind ∧ e.o.d.key = key ∧ e.o.d.value = val) :
    Calls Tryz.prog 28 #[.pointer (some ⟨b, 0, none⟩), .int .i64 kind, txt key, txt val] w fun e w' => e = .returned (.bool true) ∧ Below w.heap.size w w' := by
  obtain ⟨hzo, _⟩ := info_two opZero
  have HZO := Lib.hid hzo
  have HEX := Lib.hid hex
  obtain ⟨p, cap, hv⟩ := h.ops.form
  subst hv
  have hc0 := h.c0
  have HS := Lib.hid h.ops.srcOf
  have HOK := Lib.hid h.okO
  have H38 := Lib.hid (show ∀ e ∈ O, e.cs.length = 38 from fun e he => OpV.cs_length (h.okO e he).ok _ _)
  clear h hzo hex
  go_enter Tryz.func28, Tryz.ntmps28
  go_upto_region 2 with fail
  clear hc0
  go_loopw [16] (fun i wr => ∃ n : Nat, n ≤ O.length ∧ i = .int .i64 n ∧ Hid (∀ e ∈ O.take n, ¬ (e.o.d.kind = kind ∧ e.o.d.key = key ∧ e.o.d.value = val)) ∧ Hid (Below w.heap.size w wr)) (fun i _ => O.length - (intOf i).toNat)
  case atStart => exact ⟨0, by omega, rfl, Lib.hid (by simp), Lib.hid (Below.refl _ _)⟩
  case round =>
    obtain ⟨n, hn1, rfl, HNO, HB⟩ := hrel
    have hzr := HB.out.size
    by_cases hlt : n < O.length
    · obtain ⟨ex, gx, ox, hx1, hx2, hx3, hpx, hx4⟩ := op_at (HS.out.below HB.out (Nat.le_refl _)).at_ H38.out hlt
      subst hpx
      have HTK := Lib.hid hx2
      obtain ⟨xo, hxo⟩ : ∃ y, y = ex.o := ⟨_, rfl⟩
      obtain ⟨xp, hxp⟩ : ∃ y, y = ex.p := ⟨_, rfl⟩
      obtain ⟨xc, hxc⟩ : ∃ y, y = ex.c := ⟨_, rfl⟩
      have hcs : ex.cs = xo.cs xp xc := by rw [hxo, hxp, hxc]; rfl
      have HCx := Lib.hid (show cellsAt wr gx (ox + n * 38) (xo.cs xp xc) by rw [← hcs]; exact hx4)
      have H38x := Lib.hid (show (xo.cs xp xc).length = 38 by rw [← hcs]; exact H38.out ex hx3)
      have HON := Lib.hid (OpV.cs_one xo xp xc)
      have HOZ := Lib.hid (show (zeroOp.cs none 0).toArray.size = (xo.cs xp xc).toArray.size by rw [List.size_toArray, List.size_toArray, H38x.out]; rfl)
      have HXO := Lib.hid hxo
      clear hcs hxo hxp hxc hx1 hx2 hx3 hx4
      go_upto_region 4 with (first
        | (refine wpList_loadAgg _ rfl 46 _ rfl _ Tryz.underlying46 rfl gx (ox + n * 38) (by rfl) (xo.cs xp xc) (by rw [opInfo, H38x.out]) HCx.out ?_)
        | (refine wpList_allocZ _ rfl 46 rfl _ HZO.out ?_)
        | (refine wpList_storeNew _ wr rfl 46 _ _ rfl (zeroOp.cs none 0).toArray rfl (by rfl) (xo.cs xp xc).toArray (by rfl) (by rw [opInfo, List.size_toArray, H38x.out]) HOZ.out (by simpa using HON.out) ?_))
      obtain ⟨w6, hw6⟩ : ∃ w6, w6 = wr.alloc (.cells (xo.cs xp xc).toArray 46) := ⟨_, rfl⟩
      rw [← hw6]
      obtain ⟨k6, hk6⟩ : ∃ k, k = wr.heap.size := ⟨_, rfl⟩
      rw [← hk6]
      have hb6 : Below wr.heap.size wr w6 := by rw [hw6]; exact (Below.refl _ wr).alloc (Nat.le_refl _) _
      have hC6 : cellsAt w6 k6 0 (xo.cs xp xc) := by rw [hw6, hk6]; simpa using cellsAt_new wr (xo.cs xp xc).toArray 46
      have HB6 := Lib.hid (HB.out.trans (hb6.mono hzr))
      have hc0 := (OpV.cs_kind hC6).1
      have hc1 := (OpV.cs_kind hC6).2.1
      have hc2 := (OpV.cs_kind hC6).2.2
      clear hw6 hk6 hb6 hC6
      have HSTEP := Lib.hid (show ¬ (xo.d.kind = kind ∧ xo.d.key = key ∧ xo.d.value = val) → ∀ e ∈ O.take (n + 1), ¬ (e.o.d.kind = kind ∧ e.o.d.key = key ∧ e.o.d.value = val) from fun hne e he => by
        rw [HTK.out] at he
        rcases List.mem_append.1 he with h1 | h1
        · exact HNO.out e h1
        · rw [List.mem_singleton.1 h1, ← HXO.out]
          exact hne)
      obtain ⟨xk, hxk⟩ : ∃ y, y = xo.d.kind := ⟨_, rfl⟩
      obtain ⟨xt, hxt⟩ : ∃ y, y = xo.d.key := ⟨_, rfl⟩
      obtain ⟨xv, hxv⟩ : ∃ y, y = xo.d.value := ⟨_, rfl⟩
      rw [← hxk] at hc0 HSTEP
      rw [← hxt] at hc1 HSTEP
      rw [← hxv] at hc2 HSTEP
      clear hxk hxt hxv
      by_cases h1 : xk = kind
      · have e1 : (xk == kind) = true := beq_iff_eq.2 h1
        have H1 := Lib.hid h1
        clear h1
        by_cases h2 : xt = key
        · have H2 := Lib.hid h2
          have e2 : (xt == key) = true := beq_iff_eq.2 h2
          have e2' : ((⟨xt.toArray⟩ : ByteArray).toList == (⟨key.toArray⟩ : ByteArray).toList) = true := by rw [h2]; simp
          clear h2
          by_cases h3 : xv = val
          · have H3 := Lib.hid h3
            have e3 : (xv == val) = true := beq_iff_eq.2 h3
            have e3' : ((⟨xv.toArray⟩ : ByteArray).toList == (⟨val.toArray⟩ : ByteArray).toList) = true := by rw [h3]; simp
            clear h3
            go_wp2
            go_ret
            exact ⟨rfl, HB6.out⟩
          · have HS3 := Lib.hid (HSTEP.out fun h => h3 h.2.2)
            have e3 : (xv == val) = false := beq_eq_false_iff_ne.2 h3
            have e3' : ((⟨xv.toArray⟩ : ByteArray).toList == (⟨val.toArray⟩ : ByteArray).toList) = false := by
              rw [ByteArray.toList_eq, ByteArray.toList_eq, beq_eq_false_iff_ne]
              exact h3
            clear h3
            go_wp2
            go_roundw
            case rel => exact ⟨n + 1, by omega, by go_num, HS3, HB6⟩
            case measure => simp [intOf] <;> omega
        · have HS3 := Lib.hid (HSTEP.out fun h => h2 h.2.1)
          have e2 : (xt == key) = false := beq_eq_false_iff_ne.2 h2
          have e2' : ((⟨xt.toArray⟩ : ByteArray).toList == (⟨key.toArray⟩ : ByteArray).toList) = false := by
            rw [ByteArray.toList_eq, ByteArray.toList_eq, beq_eq_false_iff_ne]
            exact h2
          clear h2
          go_wp2
          go_roundw
          case rel => exact ⟨n + 1, by omega, by go_num, HS3, HB6⟩
          case measure => simp [intOf] <;> omega
      · have HS3 := Lib.hid (HSTEP.out fun h => h1 h.1)
        have e1 : (xk == kind) = false := beq_eq_false_iff_ne.2 h1
        clear h1
        go_wp2
        go_roundw
        case rel => exact ⟨n + 1, by omega, by go_num, HS3, HB6⟩
        case measure => simp [intOf] <;> omega
    · obtain rfl : n = O.length := by omega
      obtain ⟨e, he, hm⟩ := HEX.out
      exact absurd hm (HNO.out e (by rw [List.take_length]; exact he))
end Go.Proofs.YtfoifdhcelcgiaaGreatDoor
