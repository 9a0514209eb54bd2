/-
  LineParts, walked: what Of answers of some kinds is what it answers of each, put together, in the row; Keys likewise.
-/
import Derived.Test.YtfoifdhcelcgiaaGreatDoorLineA
import Derived.Test.YtfoifdhcelcgiaaGreatDoorLineT
import Derived.Test.YtfoifdhcelcgiaaGreatDoorLineOf
import Derived.Test.YtfoifdhcelcgiaaGreatDoorRisT
import Derived.Test.YtfoifdhcelcgiaaGreatDoorPartP
import Derived.Test.YtfoifdhcelcgiaaGreatDoorJn
namespace Go.Proofs.YtfoifdhcelcgiaaGreatDoor
open Go Go.RowKit

theorem pickO_pair (key : Tx) (a b : Int) (e : NOp) : pickO key [a, b] e = (pickO key [a] e || pickO key [b] e) := by
  unfold pickO
  rw [Bool.eq_iff_iff]
  simp
  exact and_or_left
theorem pickO_not {key : Tx} {a b : Int} (h : a ≠ b) {e : NOp} (ha : pickO key [a] e = true) : pickO key [b] e = false := by
  unfold pickO at *
  simp at ha ⊢
  intro _ h2
  exact h (ha.2.symm.trans h2)
theorem filter_pair (l : List NOp) (key : Tx) (a b : Int) : (l.filter (pickO key [a, b])).filter (pickO key [a]) = l.filter (pickO key [a]) ∧ (l.filter (pickO key [a, b])).filter (pickO key [b]) = l.filter (pickO key [b]) := by
  constructor
  · rw [List.filter_filter]
    refine List.filter_congr fun e _ => ?_
    rw [pickO_pair]
    cases pickO key [a] e <;> simp
  · rw [List.filter_filter]
    refine List.filter_congr fun e _ => ?_
    rw [pickO_pair]
    cases pickO key [b] e <;> simp
/-- how many of the first n are picked -/
def cntP (X : List E3) (p : NOp → Bool) (n : Nat) : Nat := (((X.map E3.ent).take n).filter p).length
theorem cntP_zero (X : List E3) (p : NOp → Bool) : cntP X p 0 = 0 := rfl
theorem cntP_le {X Y : List E3} {p : NOp → Bool} (hY : Y.map E3.ent = (X.map E3.ent).filter p) (n : Nat) : cntP X p n ≤ Y.length := by
  have h : cntP X p n ≤ ((X.map E3.ent).filter p).length := filter_lt
  rw [← hY, List.length_map] at h
  exact h
theorem cntP_all {X Y : List E3} {p : NOp → Bool} (hY : Y.map E3.ent = (X.map E3.ent).filter p) : cntP X p X.length = Y.length := by
  unfold cntP
  rw [List.take_of_length_le (by rw [List.length_map]; exact Nat.le_refl _), ← hY, List.length_map]
theorem cntP_t {X : List E3} {p : NOp → Bool} {n : Nat} {e : E3} (he : X[n]? = some e) (hp : p e.ent = true) : cntP X p (n + 1) = cntP X p n + 1 := by
  unfold cntP
  rw [filter_succ (show (X.map E3.ent)[n]? = some e.ent by rw [List.getElem?_map, he]; rfl), if_pos hp, List.length_append]
  rfl
theorem cntP_f {X : List E3} {p : NOp → Bool} {n : Nat} {e : E3} (he : X[n]? = some e) (hp : p e.ent = false) : cntP X p (n + 1) = cntP X p n := by
  unfold cntP
  rw [filter_succ (show (X.map E3.ent)[n]? = some e.ent by rw [List.getElem?_map, he]; rfl), hp, List.length_append]
  rfl
theorem cntP_at {X Y : List E3} {p : NOp → Bool} (hY : Y.map E3.ent = (X.map E3.ent).filter p) {n : Nat} {e : E3} (he : X[n]? = some e) (hp : p e.ent = true) : ∃ y, Y[cntP X p n]? = some y ∧ y.o = e.o := by
  have h : ((X.map E3.ent).filter p)[cntP X p n]? = some e.ent := filter_at (by rw [List.getElem?_map, he]; rfl) hp
  rw [← hY, List.getElem?_map] at h
  cases hy : Y[cntP X p n]? with
  | none => rw [hy] at h; cases h
  | some y =>
    rw [hy] at h
    exact ⟨y, rfl, congrArg Prod.snd (Option.some.inj h)⟩
theorem pick_ne {X Y : List E3} {key : Tx} {ks : List Int} (hY : Y.map E3.ent = (X.map E3.ent).filter (pickO key ks)) {e y : E3} (he : pickO key ks e.ent = false) (hy : y ∈ Y) : y.o ≠ e.o := by
  intro heq
  have h1 : y.ent ∈ (X.map E3.ent).filter (pickO key ks) := by rw [← hY]; exact List.mem_map.2 ⟨y, hy, rfl⟩
  have h2 := (List.mem_filter.1 h1).2
  have h3 : pickO key ks y.ent = pickO key ks e.ent := by
    unfold pickO E3.ent
    rw [heq]
  rw [h3, he] at h2
  cases h2
section
variable {P : Program} (w : World) {ops : Array Oper} {rest : List Oper} {o : Oper} {a : Act} {Q : Exit → Act → World → Prop}
theorem wpList_wanted (hw : Region.wanted o (yielded ops a.tmps) = true) (h : ∀ K : Act → World → Prop, (∀ a w, wpList P ops Q rest a w → K a w) → o.wp P a w K Q) : wpList P ops Q (o :: rest) a w := by
  unfold wpList
  rw [if_pos hw]
  exact .inl (h _ (fun _ _ h => h))
end
theorem src_pair (w : World) (a b : Int) (t : TypeId) : Src (w.alloc (.cells #[.int .i64 a, .int .i64 b] t)) (some ⟨w.heap.size, 0, none⟩) ([a, b].map (Value.int .i64)) := ⟨fun j u hj => ⟨w.heap.size, 0, rfl, by
  rw [Nat.zero_add, World.cell?_alloc_new]
  simpa using hj⟩⟩
theorem src_one (w : World) (a : Int) (t : TypeId) : Src (w.alloc (.cells #[.int .i64 a] t)) (some ⟨w.heap.size, 0, none⟩) ([a].map (Value.int .i64)) := ⟨fun j u hj => ⟨w.heap.size, 0, rfl, by
  rw [Nat.zero_add, World.cell?_alloc_new]
  simpa using hj⟩⟩
set_option maxRecDepth 100000 in
set_option maxHeartbeats 16000000 in
theorem parts_any (M : List MkV) (hM : ∀ m ∈ M, m.Ok) (p : Option Addr) (cap : Nat) (w : World) (hT : Tabs w) (hs : Src w p (mcs M)) (hps : ∀ m ∈ M, Src w m.p (pcs m.o.preds)) (hMl : M.length ≤ 1000000000) (key : List UInt8) (ka kb : Int) (hkey : key.length ≤ 1048576) :
    Calls Tryz.prog 5 #[.slice p M.length cap, txt key, .int .i64 ka, .int .i64 kb] w fun e w' => e = .returned (.bool true) ∧ Below w.heap.size w w' := by
  obtain ⟨hzo, _⟩ := info_two opZero
  have HZO := Lib.hid hzo
  have HM := Lib.hid hM
  have HS := Lib.hid hs
  have HPS := Lib.hid hps
  have HT := Lib.hid hT
  clear hzo hM hs hps hT
  go_enter Tryz.func5, Tryz.ntmps5
  go_upto_region 3 with (go_at_call 8; refine (alive11_any w HT.out).mono ?_; rintro e w1 ⟨rfl, hb1⟩)
  have hz1 := hb1.size
  have HB1 := Lib.hid hb1
  have HCB := Lib.hid (both_any M HM.out p cap w1 (HT.out.of_below hb1 HT.out.2.2) (HS.out.below hb1 (Nat.le_refl _)) (fun m hm => (HPS.out m hm).below hb1 (Nat.le_refl _)) hMl)
  clear hb1
  by_cases hab : ka = kb
  · subst hab
    go_wp2
    go_ret
    exact ⟨rfl, HB1.out⟩
  · have hab1 : (ka == kb) = false := beq_eq_false_iff_ne.2 hab
    have hsz := size_txt key
    by_cases hlong : 100 < key.length
    · have hlg : decide ((key.length : Int) > 100) = true := decide_eq_true (by omega)
      go_wp2
      go_ret
      exact ⟨rfl, HB1.out⟩
    · have hlg : decide ((key.length : Int) > 100) = false := decide_eq_false (by omega)
      go_upto_region 5 with fail
      clear hab1 hlg
      go_upto_region 6 with (go_at_call 9; refine HCB.out.mono ?_; rintro e w2 ⟨b, b2, O, W, O2, W2, rfl, hbo⟩)
      have hlen := hbo.len
      have hz2 := hbo.below.size
      have HB2 := Lib.hid (HB1.out.trans (hbo.below.mono hz1))
      obtain ⟨mo, mw, mt, BD, TT, hdag⟩ := hbo.dag
      have HD := Lib.hid hdag
      have HIN := Lib.hid hbo.inv
      have HOF := Lib.hid (fun (kinds : List Int) (pk : Option Addr) (ck : Nat) (wz : World) (hb : Below w2.heap.size w2 wz) (hs : Src wz pk (kinds.map (Value.int .i64))) (hk : kinds.length ≤ 1000000000) => lineOf_any key kinds pk ck b mo mw mt BD O W TT wz (HD.out.under hb) HIN.out (by omega) hs hk)
      clear hbo hdag
      go_wp2_with fail
      refine (HOF.out [ka, kb] (some ⟨w2.heap.size, 0, none⟩) 2 (w2.alloc (.cells #[.int .i64 ka, .int .i64 kb] 3)) ((Below.refl _ w2).alloc (Nat.le_refl _) _) (src_pair w2 ka kb _) (by simp)).mono ?_
      rintro e wX ⟨vX, X, BX, rfl, hXE, hXO⟩
      obtain ⟨pX, cX, hpX⟩ := hXO.own.form
      subst hpX
      have HB2X := Lib.hid (show Below w2.heap.size w2 wX from ((Below.refl _ w2).alloc (Nat.le_refl _) _).trans (hXO.below.mono (by simp)))
      go_wp2_with fail
      refine (HOF.out [ka] (some ⟨wX.heap.size, 0, none⟩) 1 (wX.alloc (.cells #[.int .i64 ka] 3)) (HB2X.out.alloc HB2X.out.size _) (src_one wX ka _) (by simp)).mono ?_
      rintro e wY ⟨vY, Y, BY, rfl, hYE, hYO⟩
      obtain ⟨pY, cY, hpY⟩ := hYO.own.form
      subst hpY
      have HB2Y := Lib.hid (show Below w2.heap.size w2 wY from (HB2X.out.alloc HB2X.out.size _).trans (hYO.below.mono (Nat.le_trans HB2X.out.size (by simp))))
      go_wp2_with fail
      refine (HOF.out [kb] (some ⟨wY.heap.size, 0, none⟩) 1 (wY.alloc (.cells #[.int .i64 kb] 3)) (HB2Y.out.alloc HB2Y.out.size _) (src_one wY kb _) (by simp)).mono ?_
      rintro e wZ ⟨vZ, Z, BZ, rfl, hZE, hZO⟩
      obtain ⟨pZ, cZ, hpZ⟩ := hZO.own.form
      subst hpZ
      have HXE := Lib.hid hXE
      have HYE := Lib.hid (show Y.map E3.ent = (X.map E3.ent).filter (pickO key [ka]) by rw [hXE, hYE, (filter_pair _ key ka kb).1])
      have HZE := Lib.hid (show Z.map E3.ent = (X.map E3.ent).filter (pickO key [kb]) by rw [hXE, hZE, (filter_pair _ key ka kb).2])
      have hXl : X.length ≤ 30 := by
        have h1 := congrArg List.length hXE
        rw [List.length_map] at h1
        have h2 := List.length_filter_le (pickO key [ka, kb]) (rowL (O.map E3.ent))
        rw [rowL_length, List.length_map] at h2
        omega
      have HBXY := Lib.hid (((Below.refl _ wX).alloc (Nat.le_refl _) (.cells #[.int .i64 ka] 3)).trans (hYO.below.mono (by simp)))
      have HBYZ := Lib.hid (((Below.refl _ wY).alloc (Nat.le_refl _) (.cells #[.int .i64 kb] 3)).trans (hZO.below.mono (by simp)))
      have HBXZ := Lib.hid (HBXY.out.trans (HBYZ.out.mono HBXY.out.size))
      have HSX := Lib.hid ((Owns.srcOf hXO.own).below HBXZ.out (Nat.le_refl _))
      have HSY := Lib.hid ((Owns.srcOf hYO.own).below HBYZ.out (Nat.le_refl _))
      have HSZ := Lib.hid (Owns.srcOf hZO.own)
      have HOKX := Lib.hid (show ∀ e ∈ X, e.Ok wZ BX from fun e he => (hXO.okR e he).keeps HBXZ.out.size (fun i hi _ => HBXZ.out.block i hi))
      have HOKY := Lib.hid (show ∀ e ∈ Y, e.Ok wZ BY from fun e he => (hYO.okR e he).keeps HBYZ.out.size (fun i hi _ => HBYZ.out.block i hi))
      have HOKZ := Lib.hid hZO.okR
      have HX38 := Lib.hid hXO.cs38
      have HY38 := Lib.hid hYO.cs38
      have HZ38 := Lib.hid hZO.cs38
      have HB2Z := Lib.hid (show Below w2.heap.size w2 wZ from (HB2Y.out.alloc HB2Y.out.size (.cells #[.int .i64 kb] 3)).trans (hZO.below.mono (Nat.le_trans HB2Y.out.size (by simp))))
      clear hXO hYO hZO hXE hYE hZE
      have hYl : Y.length ≤ 30 := by
        have h1 := congrArg List.length HYE.out
        rw [List.length_map] at h1
        have h2 := List.length_filter_le (pickO key [ka]) (X.map E3.ent)
        rw [List.length_map] at h2
        omega
      have hZl : Z.length ≤ 30 := by
        have h1 := congrArg List.length HZE.out
        rw [List.length_map] at h1
        have h2 := List.length_filter_le (pickO key [kb]) (X.map E3.ent)
        rw [List.length_map] at h2
        omega
      have HPP := Lib.hid (show ∀ e ∈ X, pickO key [ka] e.ent = true ∨ pickO key [kb] e.ent = true from fun e he => by
        have h1 := (List.mem_filter.1 (show e.ent ∈ (rowL (O.map E3.ent)).filter (pickO key [ka, kb]) by rw [← HXE.out]; exact List.mem_map.2 ⟨e, he, rfl⟩)).2
        rw [pickO_pair, Bool.or_eq_true] at h1
        exact h1)
      have hz2Z := HB2Z.out.size
      go_upto_region 9 with fail
      go_loopw [14, 15, 51] (fun i k x wr => ∃ n : Nat, n ≤ X.length ∧ i = .int .i64 (cntP X (pickO key [ka]) n : Nat) ∧ k = .int .i64 (cntP X (pickO key [kb]) n : Nat) ∧ x = .int .i64 n ∧ Hid (Below wZ.heap.size wZ wr)) (fun _ _ x _ => X.length - (intOf x).toNat)
      case atStart => exact ⟨0, by omega, rfl, rfl, rfl, Lib.hid (Below.refl _ _)⟩
      case round =>
        obtain ⟨n, hn1, rfl, rfl, rfl, HB⟩ := hrel
        have hzr := HB.out.size
        by_cases hlt : n < X.length
        · obtain ⟨ex, gx, ox, hx1, _, hx3, hpx, hx4⟩ := op_at (HSX.out.below HB.out (Nat.le_refl _)).at_ HX38.out hlt
          subst hpx
          have HEX := Lib.hid ((HOKX.out ex hx3).keeps HB.out.size (fun i hi _ => HB.out.block i hi))
          have HEn := Lib.hid hx1
          have HPX := Lib.hid (HPP.out ex hx3)
          have hcyl := cntP_le HYE.out n
          have hczl := cntP_le HZE.out n
          obtain ⟨xo, hxo⟩ : ∃ y, y = ex.o := ⟨_, rfl⟩
          obtain ⟨xp, hxp⟩ : ∃ y, y = ex.p := ⟨_, rfl⟩
          obtain ⟨xc, hxc⟩ : ∃ y, y = ex.c := ⟨_, rfl⟩
          have hcs : ex.cs = xo.cs xp xc := by rw [hxo, hxp, hxc]; rfl
          have HXO2 := Lib.hid hxo
          have HCx := Lib.hid (show cellsAt wr gx (ox + n * 38) (xo.cs xp xc) by rw [← hcs]; exact hx4)
          have H38x := Lib.hid (show (xo.cs xp xc).length = 38 by rw [← hcs]; exact HX38.out ex hx3)
          have HXOK := Lib.hid (show xo.Ok ∧ Src wr xp (pcs xo.preds) by rw [hxo, hxp]; exact ⟨HEX.out.ok, HEX.out.src⟩)
          have HON := Lib.hid (OpV.cs_one xo xp xc)
          have HOZ := Lib.hid (show (zeroOp.cs none 0).toArray.size = (xo.cs xp xc).toArray.size by rw [List.size_toArray, List.size_toArray, H38x.out]; rfl)
          obtain ⟨cy, hcy⟩ : ∃ c, c = cntP X (pickO key [ka]) n := ⟨_, rfl⟩
          obtain ⟨cz, hcz⟩ : ∃ c, c = cntP X (pickO key [kb]) n := ⟨_, rfl⟩
          rw [← hcy] at hcyl
          rw [← hcz] at hczl
          rw [← hcy, ← hcz]
          have HCY := Lib.hid hcy
          have HCZ := Lib.hid hcz
          clear hcs hxo hxp hxc hx1 hx3 hx4 hcy hcz
          go_upto_region 11 with (first
            | (refine wpList_loadAgg _ rfl 46 _ rfl _ Tryz.underlying46 rfl gx (ox + n * 38) (by rfl) (xo.cs xp xc) (by rw [opInfo, H38x.out]) HCx.out ?_)
            | (refine wpList_allocZ _ rfl 46 rfl _ HZO.out ?_)
            | (refine wpList_storeNew _ wr rfl 46 _ _ rfl (zeroOp.cs none 0).toArray rfl (by rfl) (xo.cs xp xc).toArray (by rfl) (by rw [opInfo, List.size_toArray, H38x.out]) HOZ.out (by simpa using HON.out) ?_))
          obtain ⟨w6, hw6⟩ : ∃ w6, w6 = wr.alloc (.cells (xo.cs xp xc).toArray 46) := ⟨_, rfl⟩
          rw [← hw6]
          obtain ⟨k6, hk6⟩ : ∃ k, k = wr.heap.size := ⟨_, rfl⟩
          rw [← hk6]
          have hb6 : Below wr.heap.size wr w6 := by rw [hw6]; exact (Below.refl _ wr).alloc (Nat.le_refl _) _
          have hz6 := hb6.size
          have hk66 : k6 < w6.heap.size := by rw [hw6, hk6]; simp
          have HC6 := Lib.hid (show cellsAt w6 k6 0 (xo.cs xp xc) by rw [hw6, hk6]; simpa using cellsAt_new wr (xo.cs xp xc).toArray 46)
          have HB6 := Lib.hid (HB.out.trans (hb6.mono hzr))
          have HS6 := Lib.hid (HXOK.out.2.below hb6 (Nat.le_refl _))
          have hzz6 := HB6.out.size
          clear hw6 hk6 hb6
          by_cases hpa : pickO key [ka] ex.ent = true
          · have HPA := Lib.hid hpa
            have HPB := Lib.hid (pickO_not hab hpa)
            clear hpa
            have hly : cy < Y.length := by
              obtain ⟨y, hy, _⟩ := cntP_at HYE.out HEn.out HPA.out
              rw [← HCY.out] at hy
              exact (List.getElem?_eq_some_iff.1 hy).1
            obtain ⟨ey, gy, oy, hy1, _, hy3, hpy, hy4⟩ := op_at (HSY.out.below HB6.out (Nat.le_refl _)).at_ HY38.out hly
            subst hpy
            have HEy := Lib.hid ((HOKY.out ey hy3).keeps HB6.out.size (fun i hi _ => HB6.out.block i hi))
            have HMy := Lib.hid hy3
            have HNy := Lib.hid hy1
            have hgly := cellsAt_lt hy4 (by rw [HY38.out ey hy3]; omega)
            obtain ⟨xoy, hxoy⟩ : ∃ y, y = ey.o := ⟨_, rfl⟩
            obtain ⟨xpy, hxpy⟩ : ∃ y, y = ey.p := ⟨_, rfl⟩
            obtain ⟨xcy, hxcy⟩ : ∃ y, y = ey.c := ⟨_, rfl⟩
            have hcsy : ey.cs = xoy.cs xpy xcy := by rw [hxoy, hxpy, hxcy]; rfl
            have HXOy := Lib.hid hxoy
            have HCy := Lib.hid (show cellsAt w6 gy (oy + cy * 38) (xoy.cs xpy xcy) by rw [← hcsy]; exact hy4)
            have H38y := Lib.hid (show (xoy.cs xpy xcy).length = 38 by rw [← hcsy]; exact HY38.out ey hy3)
            have HOKy := Lib.hid (show xoy.Ok ∧ Src w6 xpy (pcs xoy.preds) by rw [hxoy, hxpy]; exact ⟨HEy.out.ok, HEy.out.src⟩)
            have hlty : decide ((cy : Int) < (Y.length : Int)) = true := decide_eq_true (by omega)
            have hliy : (cy : Int) < (Y.length : Int) := by omega
            have hwiy : IntKind.i64.wrap (cy : Int) = (cy : Int) := i64_nat cy (by omega)
            clear hcsy hxoy hxpy hxcy hy1 hy3 hy4
            have HQy := Lib.hid (show xoy = xo from by
              obtain ⟨y, hy, hyo⟩ := cntP_at HYE.out HEn.out HPA.out
              rw [← HCY.out, HNy.out] at hy
              rw [HXOy.out, HXO2.out, ← hyo, Option.some.inj hy])
            obtain ⟨NV, hNVa, hNVb⟩ : ∃ n, w6.heap.size ≤ n ∧ n ≤ w6.heap.size := ⟨_, Nat.le_refl _, Nat.le_refl _⟩
            refine wp_region_noPanic ?_
            refine wp_region_till 11 (fun w' => Below NV w6 w') (by kernel_rfl) (by kernel_rfl) ?_
            obtain ⟨wV, hwV⟩ : ∃ wQQ, wQQ = w6.drew := ⟨_, rfl⟩
            have hSwV : Below NV w6 wV := by rw [hwV]; exact (Below.refl NV w6).drew
            rw [← hwV]
            have HSV := Lib.hid hSwV
            have hzwV : w6.heap.size ≤ wV.heap.size := by rw [hwV]; exact Nat.le_refl _
            clear hwV hSwV
            go_simp
            refine Till.pure 0 rfl rfl (by kernel_rfl) (NoPanic.noFrame _) HSV.out ?_
            go_big_quiet_step (fail)
            refine wpQuiet_nil ?_
            refine Till.pure 1 rfl rfl (by kernel_rfl) (NoPanic.noFrame _) HSV.out ?_
            go_big_quiet_step (fail)
            refine wpQuiet_nil ?_
            refine Till.val 2 (.int .i64 ((Y.length : Nat) : Int)) rfl rfl (by kernel_rfl) (NoPanic.noFrame _) HSV.out (fun w' => exec_len _ _ _ rfl Tryz.underlying35 (some ⟨gy, oy, none⟩) Y.length cY (by rfl) w') ?_
            go_simp
            refine Till.pure 3 rfl rfl (by kernel_rfl) (NoPanic.noFrame _) HSV.out ?_
            go_big_quiet_step (fail)
            refine wpQuiet_nil ?_
            refine Till.pure 4 rfl rfl (by kernel_rfl) (NoPanic.noFrame _) HSV.out ?_
            go_big_quiet_step (fail)
            refine wpQuiet_nil ?_
            refine Till.pure 5 rfl rfl (by kernel_rfl) (NoPanic.noFrame _) HSV.out ?_
            go_big_quiet_step (fail)
            refine wpQuiet_nil ?_
            refine Till.pure 6 rfl rfl (by kernel_rfl) (NoPanic.noFrame _) HSV.out ?_
            go_big_quiet_step (fail)
            refine wpQuiet_nil ?_
            refine Till.pure 7 rfl rfl (by kernel_rfl) (NoPanic.noFrame _) HSV.out ?_
            go_big_quiet_step (fail)
            refine wpQuiet_nil ?_
            refine Till.load 8 46 _ ⟨gy, oy + cy * 38, none⟩ (.agg (xoy.cs xpy xcy).toArray) rfl rfl rfl rfl (by kernel_rfl) (NoPanic.noFrame _) HSV.out (fun w' hw' => run_loadAgg Tryz.underlying46 rfl (by rw [opInfo, H38y.out]) (HCy.out.of_block (hw'.block _ (by omega)))) ?_
            go_simp
            refine Till.load 9 46 _ ⟨k6, 0, none⟩ (.agg (xo.cs xp xc).toArray) rfl rfl rfl rfl (by kernel_rfl) (NoPanic.noFrame _) HSV.out (fun w' hw' => run_loadAgg Tryz.underlying46 rfl (by rw [opInfo, H38x.out]) (HC6.out.of_block (hw'.block _ (by omega)))) ?_
            go_simp
            have hcb := same_any xoy xo HOKy.out.1 HXOK.out.1 xpy xp xcy xc wV (HOKy.out.2.below HSV.out hNVa) (HS6.out.below HSV.out hNVa)
            rw [decide_eq_true HQy.out] at hcb
            have HCBV := Lib.hid hcb
            clear hcb
            refine Till.act 10 rfl rfl (by kernel_rfl) rfl ?_
            intro K hK
            go_wp2_with (go_at_call 23; refine HCBV.out.mono ?_; rintro e wA ⟨rfl, hbA⟩)
            have hzA := hbA.size
            have hSA := HSV.out.trans (hbA.mono (by omega))
            refine hK _ _ hSA ?_
            clear hK K
            go_simp
            have HSA := Lib.hid hSA
            clear hSA hbA
            refine Till.tail _ rfl rfl (by kernel_rfl) (by kernel_rfl) ?_
            have HFINV := Lib.hid (HB6.out.trans ((HSA.out.mono hNVa).mono hzz6))
            clear hlty hliy hwiy
            go_wp2
            refine NoPanic.normal ?_
            go_wp2
            go_roundw
            case rel => exact ⟨n + 1, by omega, by rw [cntP_t HEn.out HPA.out, ← HCY.out]; go_num, by rw [cntP_f HEn.out HPB.out, ← HCZ.out], by go_num, HFINV⟩
            case measure => simp [intOf] <;> omega
          · have hpa0 : pickO key [ka] ex.ent = false := by simpa using hpa
            have HPA := Lib.hid hpa0
            have HPB := Lib.hid (HPX.out.resolve_left hpa)
            clear hpa hpa0
            by_cases hly : cy < Y.length
            · obtain ⟨ey, gy, oy, hy1, _, hy3, hpy, hy4⟩ := op_at (HSY.out.below HB6.out (Nat.le_refl _)).at_ HY38.out hly
              subst hpy
              have HEy := Lib.hid ((HOKY.out ey hy3).keeps HB6.out.size (fun i hi _ => HB6.out.block i hi))
              have HMy := Lib.hid hy3
              have HNy := Lib.hid hy1
              have hgly := cellsAt_lt hy4 (by rw [HY38.out ey hy3]; omega)
              obtain ⟨xoy, hxoy⟩ : ∃ y, y = ey.o := ⟨_, rfl⟩
              obtain ⟨xpy, hxpy⟩ : ∃ y, y = ey.p := ⟨_, rfl⟩
              obtain ⟨xcy, hxcy⟩ : ∃ y, y = ey.c := ⟨_, rfl⟩
              have hcsy : ey.cs = xoy.cs xpy xcy := by rw [hxoy, hxpy, hxcy]; rfl
              have HXOy := Lib.hid hxoy
              have HCy := Lib.hid (show cellsAt w6 gy (oy + cy * 38) (xoy.cs xpy xcy) by rw [← hcsy]; exact hy4)
              have H38y := Lib.hid (show (xoy.cs xpy xcy).length = 38 by rw [← hcsy]; exact HY38.out ey hy3)
              have HOKy := Lib.hid (show xoy.Ok ∧ Src w6 xpy (pcs xoy.preds) by rw [hxoy, hxpy]; exact ⟨HEy.out.ok, HEy.out.src⟩)
              have hlty : decide ((cy : Int) < (Y.length : Int)) = true := decide_eq_true (by omega)
              have hliy : (cy : Int) < (Y.length : Int) := by omega
              have hwiy : IntKind.i64.wrap (cy : Int) = (cy : Int) := i64_nat cy (by omega)
              clear hcsy hxoy hxpy hxcy hy1 hy3 hy4
              have HQy := Lib.hid (show xoy ≠ xo from by
                rw [HXOy.out, HXO2.out]
                exact pick_ne HYE.out HPA.out HMy.out)
              obtain ⟨NV, hNVa, hNVb⟩ : ∃ n, w6.heap.size ≤ n ∧ n ≤ w6.heap.size := ⟨_, Nat.le_refl _, Nat.le_refl _⟩
              refine wp_region_noPanic ?_
              refine wp_region_till 11 (fun w' => Below NV w6 w') (by kernel_rfl) (by kernel_rfl) ?_
              obtain ⟨wV, hwV⟩ : ∃ wQQ, wQQ = w6.drew := ⟨_, rfl⟩
              have hSwV : Below NV w6 wV := by rw [hwV]; exact (Below.refl NV w6).drew
              rw [← hwV]
              have HSV := Lib.hid hSwV
              have hzwV : w6.heap.size ≤ wV.heap.size := by rw [hwV]; exact Nat.le_refl _
              clear hwV hSwV
              go_simp
              refine Till.pure 0 rfl rfl (by kernel_rfl) (NoPanic.noFrame _) HSV.out ?_
              go_big_quiet_step (fail)
              refine wpQuiet_nil ?_
              refine Till.pure 1 rfl rfl (by kernel_rfl) (NoPanic.noFrame _) HSV.out ?_
              go_big_quiet_step (fail)
              refine wpQuiet_nil ?_
              refine Till.val 2 (.int .i64 ((Y.length : Nat) : Int)) rfl rfl (by kernel_rfl) (NoPanic.noFrame _) HSV.out (fun w' => exec_len _ _ _ rfl Tryz.underlying35 (some ⟨gy, oy, none⟩) Y.length cY (by rfl) w') ?_
              go_simp
              refine Till.pure 3 rfl rfl (by kernel_rfl) (NoPanic.noFrame _) HSV.out ?_
              go_big_quiet_step (fail)
              refine wpQuiet_nil ?_
              refine Till.pure 4 rfl rfl (by kernel_rfl) (NoPanic.noFrame _) HSV.out ?_
              go_big_quiet_step (fail)
              refine wpQuiet_nil ?_
              refine Till.pure 5 rfl rfl (by kernel_rfl) (NoPanic.noFrame _) HSV.out ?_
              go_big_quiet_step (fail)
              refine wpQuiet_nil ?_
              refine Till.pure 6 rfl rfl (by kernel_rfl) (NoPanic.noFrame _) HSV.out ?_
              go_big_quiet_step (fail)
              refine wpQuiet_nil ?_
              refine Till.pure 7 rfl rfl (by kernel_rfl) (NoPanic.noFrame _) HSV.out ?_
              go_big_quiet_step (fail)
              refine wpQuiet_nil ?_
              refine Till.load 8 46 _ ⟨gy, oy + cy * 38, none⟩ (.agg (xoy.cs xpy xcy).toArray) rfl rfl rfl rfl (by kernel_rfl) (NoPanic.noFrame _) HSV.out (fun w' hw' => run_loadAgg Tryz.underlying46 rfl (by rw [opInfo, H38y.out]) (HCy.out.of_block (hw'.block _ (by omega)))) ?_
              go_simp
              refine Till.load 9 46 _ ⟨k6, 0, none⟩ (.agg (xo.cs xp xc).toArray) rfl rfl rfl rfl (by kernel_rfl) (NoPanic.noFrame _) HSV.out (fun w' hw' => run_loadAgg Tryz.underlying46 rfl (by rw [opInfo, H38x.out]) (HC6.out.of_block (hw'.block _ (by omega)))) ?_
              go_simp
              have hcb := same_any xoy xo HOKy.out.1 HXOK.out.1 xpy xp xcy xc wV (HOKy.out.2.below HSV.out hNVa) (HS6.out.below HSV.out hNVa)
              rw [decide_eq_false HQy.out] at hcb
              have HCBV := Lib.hid hcb
              clear hcb
              refine Till.act 10 rfl rfl (by kernel_rfl) rfl ?_
              intro K hK
              go_wp2_with (go_at_call 23; refine HCBV.out.mono ?_; rintro e wA ⟨rfl, hbA⟩)
              have hzA := hbA.size
              have hSA := HSV.out.trans (hbA.mono (by omega))
              refine hK _ _ hSA ?_
              clear hK K
              go_simp
              have HSA := Lib.hid hSA
              clear hSA hbA
              refine Till.tail _ rfl rfl (by kernel_rfl) (by kernel_rfl) ?_
              have HFINV := Lib.hid (HB6.out.trans ((HSA.out.mono hNVa).mono hzz6))
              clear hlty hliy hwiy
              go_wp2
              refine NoPanic.normal ?_
              have HC9 := Lib.hid (HC6.out.of_block ((HSA.out.mono hNVa).block _ hk66))
              have HS9 := Lib.hid (HS6.out.below (HSA.out.mono hNVa) (Nat.le_refl _))
              have hzz9 := HFINV.out.size
              have hz69 := (HSA.out.mono hNVa).size
              have hk69 : k6 < wA.heap.size := by omega
              go_upto_region 13 with fail
              have hlz : cz < Z.length := by
                obtain ⟨y, hy, _⟩ := cntP_at HZE.out HEn.out HPB.out
                rw [← HCZ.out] at hy
                exact (List.getElem?_eq_some_iff.1 hy).1
              obtain ⟨ez, gz, oz, hy1, _, hy3, hpy, hy4⟩ := op_at (HSZ.out.below HFINV.out (Nat.le_refl _)).at_ HZ38.out hlz
              subst hpy
              have HEz := Lib.hid ((HOKZ.out ez hy3).keeps HFINV.out.size (fun i hi _ => HFINV.out.block i hi))
              have HMz := Lib.hid hy3
              have HNz := Lib.hid hy1
              have hglz := cellsAt_lt hy4 (by rw [HZ38.out ez hy3]; omega)
              obtain ⟨xoz, hxoz⟩ : ∃ y, y = ez.o := ⟨_, rfl⟩
              obtain ⟨xpz, hxpz⟩ : ∃ y, y = ez.p := ⟨_, rfl⟩
              obtain ⟨xcz, hxcz⟩ : ∃ y, y = ez.c := ⟨_, rfl⟩
              have hcsz : ez.cs = xoz.cs xpz xcz := by rw [hxoz, hxpz, hxcz]; rfl
              have HXOz := Lib.hid hxoz
              have HCz := Lib.hid (show cellsAt wA gz (oz + cz * 38) (xoz.cs xpz xcz) by rw [← hcsz]; exact hy4)
              have H38z := Lib.hid (show (xoz.cs xpz xcz).length = 38 by rw [← hcsz]; exact HZ38.out ez hy3)
              have HOKz := Lib.hid (show xoz.Ok ∧ Src wA xpz (pcs xoz.preds) by rw [hxoz, hxpz]; exact ⟨HEz.out.ok, HEz.out.src⟩)
              have hltz : decide ((cz : Int) < (Z.length : Int)) = true := decide_eq_true (by omega)
              have hliz : (cz : Int) < (Z.length : Int) := by omega
              have hwiz : IntKind.i64.wrap (cz : Int) = (cz : Int) := i64_nat cz (by omega)
              clear hcsz hxoz hxpz hxcz hy1 hy3 hy4
              have HQz := Lib.hid (show xoz = xo from by
                obtain ⟨y, hy, hyo⟩ := cntP_at HZE.out HEn.out HPB.out
                rw [← HCZ.out, HNz.out] at hy
                rw [HXOz.out, HXO2.out, ← hyo, Option.some.inj hy])
              obtain ⟨NU, hNUa, hNUb⟩ : ∃ n, wA.heap.size ≤ n ∧ n ≤ wA.heap.size := ⟨_, Nat.le_refl _, Nat.le_refl _⟩
              refine wp_region_noPanic ?_
              refine wp_region_till 11 (fun w' => Below NU wA w') (by kernel_rfl) (by kernel_rfl) ?_
              obtain ⟨wU, hwU⟩ : ∃ wQQ, wQQ = wA.drew := ⟨_, rfl⟩
              have hSwU : Below NU wA wU := by rw [hwU]; exact (Below.refl NU wA).drew
              rw [← hwU]
              have HSU := Lib.hid hSwU
              have hzwU : wA.heap.size ≤ wU.heap.size := by rw [hwU]; exact Nat.le_refl _
              clear hwU hSwU
              go_simp
              refine Till.pure 0 rfl rfl (by kernel_rfl) (NoPanic.noFrame _) HSU.out ?_
              go_big_quiet_step (fail)
              refine wpQuiet_nil ?_
              refine Till.pure 1 rfl rfl (by kernel_rfl) (NoPanic.noFrame _) HSU.out ?_
              go_big_quiet_step (fail)
              refine wpQuiet_nil ?_
              refine Till.val 2 (.int .i64 ((Z.length : Nat) : Int)) rfl rfl (by kernel_rfl) (NoPanic.noFrame _) HSU.out (fun w' => exec_len _ _ _ rfl Tryz.underlying35 (some ⟨gz, oz, none⟩) Z.length cZ (by rfl) w') ?_
              go_simp
              refine Till.pure 3 rfl rfl (by kernel_rfl) (NoPanic.noFrame _) HSU.out ?_
              go_big_quiet_step (fail)
              refine wpQuiet_nil ?_
              refine Till.pure 4 rfl rfl (by kernel_rfl) (NoPanic.noFrame _) HSU.out ?_
              go_big_quiet_step (fail)
              refine wpQuiet_nil ?_
              refine Till.pure 5 rfl rfl (by kernel_rfl) (NoPanic.noFrame _) HSU.out ?_
              go_big_quiet_step (fail)
              refine wpQuiet_nil ?_
              refine Till.pure 6 rfl rfl (by kernel_rfl) (NoPanic.noFrame _) HSU.out ?_
              go_big_quiet_step (fail)
              refine wpQuiet_nil ?_
              refine Till.pure 7 rfl rfl (by kernel_rfl) (NoPanic.noFrame _) HSU.out ?_
              go_big_quiet_step (fail)
              refine wpQuiet_nil ?_
              refine Till.load 8 46 _ ⟨gz, oz + cz * 38, none⟩ (.agg (xoz.cs xpz xcz).toArray) rfl rfl rfl rfl (by kernel_rfl) (NoPanic.noFrame _) HSU.out (fun w' hw' => run_loadAgg Tryz.underlying46 rfl (by rw [opInfo, H38z.out]) (HCz.out.of_block (hw'.block _ (by omega)))) ?_
              go_simp
              refine Till.load 9 46 _ ⟨k6, 0, none⟩ (.agg (xo.cs xp xc).toArray) rfl rfl rfl rfl (by kernel_rfl) (NoPanic.noFrame _) HSU.out (fun w' hw' => run_loadAgg Tryz.underlying46 rfl (by rw [opInfo, H38x.out]) (HC9.out.of_block (hw'.block _ (by omega)))) ?_
              go_simp
              have hcb := same_any xoz xo HOKz.out.1 HXOK.out.1 xpz xp xcz xc wU (HOKz.out.2.below HSU.out hNUa) (HS9.out.below HSU.out hNUa)
              rw [decide_eq_true HQz.out] at hcb
              have HCBU := Lib.hid hcb
              clear hcb
              refine Till.act 10 rfl rfl (by kernel_rfl) rfl ?_
              intro K hK
              go_wp2_with (go_at_call 23; refine HCBU.out.mono ?_; rintro e wB ⟨rfl, hbB⟩)
              have hzB := hbB.size
              have hSB := HSU.out.trans (hbB.mono (by omega))
              refine hK _ _ hSB ?_
              clear hK K
              go_simp
              have HSB := Lib.hid hSB
              clear hSB hbB
              refine Till.tail _ rfl rfl (by kernel_rfl) (by kernel_rfl) ?_
              have HFINU := Lib.hid (HFINV.out.trans ((HSB.out.mono hNUa).mono hzz9))
              clear hltz hliz hwiz
              go_wp2
              refine NoPanic.normal ?_
              go_wp2
              go_roundw
              case rel => exact ⟨n + 1, by omega, by rw [cntP_f HEn.out HPA.out, ← HCY.out], by rw [cntP_t HEn.out HPB.out, ← HCZ.out]; go_num, by go_num, HFINU⟩
              case measure => simp [intOf] <;> omega
            · have hlt2 : decide ((cy : Int) < (Y.length : Int)) = false := decide_eq_false (by omega)
              obtain ⟨NV, hNVa, hNVb⟩ : ∃ n, w6.heap.size ≤ n ∧ n ≤ w6.heap.size := ⟨_, Nat.le_refl _, Nat.le_refl _⟩
              refine wp_region_noPanic ?_
              refine wp_region_till 11 (fun w' => Below NV w6 w') (by kernel_rfl) (by kernel_rfl) ?_
              obtain ⟨wV, hwV⟩ : ∃ wQQ, wQQ = w6.drew := ⟨_, rfl⟩
              have hSwV : Below NV w6 wV := by rw [hwV]; exact (Below.refl NV w6).drew
              rw [← hwV]
              have HSV := Lib.hid hSwV
              have hzwV : w6.heap.size ≤ wV.heap.size := by rw [hwV]; exact Nat.le_refl _
              clear hwV hSwV
              go_simp
              refine Till.pure 0 rfl rfl (by kernel_rfl) (NoPanic.noFrame _) HSV.out ?_
              go_big_quiet_step (fail)
              refine wpQuiet_nil ?_
              refine Till.pure 1 rfl rfl (by kernel_rfl) (NoPanic.noFrame _) HSV.out ?_
              go_big_quiet_step (fail)
              refine wpQuiet_nil ?_
              refine Till.val 2 (.int .i64 ((Y.length : Nat) : Int)) rfl rfl (by kernel_rfl) (NoPanic.noFrame _) HSV.out (fun w' => exec_len _ _ _ rfl Tryz.underlying35 (pY) Y.length cY (by rfl) w') ?_
              go_simp
              refine Till.pure 3 rfl rfl (by kernel_rfl) (NoPanic.noFrame _) HSV.out ?_
              go_big_quiet_step (fail)
              refine wpQuiet_nil ?_
              refine Till.pure 4 rfl rfl (by kernel_rfl) (NoPanic.noFrame _) HSV.out ?_
              go_big_quiet_step (fail)
              refine wpQuiet_nil ?_
              refine Till.pass 5 rfl (by rfl) (by kernel_rfl) (NoPanic.noFrame _) HSV.out ?_
              go_simp
              refine Till.pass 6 rfl (by rfl) (by kernel_rfl) (NoPanic.noFrame _) HSV.out ?_
              go_simp
              refine Till.pass 7 rfl (by rfl) (by kernel_rfl) (NoPanic.noFrame _) HSV.out ?_
              go_simp
              refine Till.pass 8 rfl (by rfl) (by kernel_rfl) (NoPanic.noFrame _) HSV.out ?_
              go_simp
              refine Till.pass 9 rfl (by rfl) (by kernel_rfl) (NoPanic.noFrame _) HSV.out ?_
              go_simp
              refine Till.pass 10 rfl (by rfl) (by kernel_rfl) (NoPanic.noFrame _) HSV.out ?_
              go_simp
              refine Till.tail _ rfl rfl (by kernel_rfl) (by kernel_rfl) ?_
              have HFINV := Lib.hid (HB6.out.trans ((HSV.out.mono hNVa).mono hzz6))
              go_wp2
              refine NoPanic.normal ?_
              have HC9 := Lib.hid (HC6.out.of_block ((HSV.out.mono hNVa).block _ hk66))
              have HS9 := Lib.hid (HS6.out.below (HSV.out.mono hNVa) (Nat.le_refl _))
              have hzz9 := HFINV.out.size
              have hz69 := (HSV.out.mono hNVa).size
              have hk69 : k6 < wV.heap.size := by omega
              go_upto_region 13 with fail
              have hlz : cz < Z.length := by
                obtain ⟨y, hy, _⟩ := cntP_at HZE.out HEn.out HPB.out
                rw [← HCZ.out] at hy
                exact (List.getElem?_eq_some_iff.1 hy).1
              obtain ⟨ez, gz, oz, hy1, _, hy3, hpy, hy4⟩ := op_at (HSZ.out.below HFINV.out (Nat.le_refl _)).at_ HZ38.out hlz
              subst hpy
              have HEz := Lib.hid ((HOKZ.out ez hy3).keeps HFINV.out.size (fun i hi _ => HFINV.out.block i hi))
              have HMz := Lib.hid hy3
              have HNz := Lib.hid hy1
              have hglz := cellsAt_lt hy4 (by rw [HZ38.out ez hy3]; omega)
              obtain ⟨xoz, hxoz⟩ : ∃ y, y = ez.o := ⟨_, rfl⟩
              obtain ⟨xpz, hxpz⟩ : ∃ y, y = ez.p := ⟨_, rfl⟩
              obtain ⟨xcz, hxcz⟩ : ∃ y, y = ez.c := ⟨_, rfl⟩
              have hcsz : ez.cs = xoz.cs xpz xcz := by rw [hxoz, hxpz, hxcz]; rfl
              have HXOz := Lib.hid hxoz
              have HCz := Lib.hid (show cellsAt wV gz (oz + cz * 38) (xoz.cs xpz xcz) by rw [← hcsz]; exact hy4)
              have H38z := Lib.hid (show (xoz.cs xpz xcz).length = 38 by rw [← hcsz]; exact HZ38.out ez hy3)
              have HOKz := Lib.hid (show xoz.Ok ∧ Src wV xpz (pcs xoz.preds) by rw [hxoz, hxpz]; exact ⟨HEz.out.ok, HEz.out.src⟩)
              have hltz : decide ((cz : Int) < (Z.length : Int)) = true := decide_eq_true (by omega)
              have hliz : (cz : Int) < (Z.length : Int) := by omega
              have hwiz : IntKind.i64.wrap (cz : Int) = (cz : Int) := i64_nat cz (by omega)
              clear hcsz hxoz hxpz hxcz hy1 hy3 hy4
              have HQz := Lib.hid (show xoz = xo from by
                obtain ⟨y, hy, hyo⟩ := cntP_at HZE.out HEn.out HPB.out
                rw [← HCZ.out, HNz.out] at hy
                rw [HXOz.out, HXO2.out, ← hyo, Option.some.inj hy])
              obtain ⟨NU, hNUa, hNUb⟩ : ∃ n, wV.heap.size ≤ n ∧ n ≤ wV.heap.size := ⟨_, Nat.le_refl _, Nat.le_refl _⟩
              refine wp_region_noPanic ?_
              refine wp_region_till 11 (fun w' => Below NU wV w') (by kernel_rfl) (by kernel_rfl) ?_
              obtain ⟨wU, hwU⟩ : ∃ wQQ, wQQ = wV.drew := ⟨_, rfl⟩
              have hSwU : Below NU wV wU := by rw [hwU]; exact (Below.refl NU wV).drew
              rw [← hwU]
              have HSU := Lib.hid hSwU
              have hzwU : wV.heap.size ≤ wU.heap.size := by rw [hwU]; exact Nat.le_refl _
              clear hwU hSwU
              go_simp
              refine Till.pure 0 rfl rfl (by kernel_rfl) (NoPanic.noFrame _) HSU.out ?_
              go_big_quiet_step (fail)
              refine wpQuiet_nil ?_
              refine Till.pure 1 rfl rfl (by kernel_rfl) (NoPanic.noFrame _) HSU.out ?_
              go_big_quiet_step (fail)
              refine wpQuiet_nil ?_
              refine Till.val 2 (.int .i64 ((Z.length : Nat) : Int)) rfl rfl (by kernel_rfl) (NoPanic.noFrame _) HSU.out (fun w' => exec_len _ _ _ rfl Tryz.underlying35 (some ⟨gz, oz, none⟩) Z.length cZ (by rfl) w') ?_
              go_simp
              refine Till.pure 3 rfl rfl (by kernel_rfl) (NoPanic.noFrame _) HSU.out ?_
              go_big_quiet_step (fail)
              refine wpQuiet_nil ?_
              refine Till.pure 4 rfl rfl (by kernel_rfl) (NoPanic.noFrame _) HSU.out ?_
              go_big_quiet_step (fail)
              refine wpQuiet_nil ?_
              refine Till.pure 5 rfl rfl (by kernel_rfl) (NoPanic.noFrame _) HSU.out ?_
              go_big_quiet_step (fail)
              refine wpQuiet_nil ?_
              refine Till.pure 6 rfl rfl (by kernel_rfl) (NoPanic.noFrame _) HSU.out ?_
              go_big_quiet_step (fail)
              refine wpQuiet_nil ?_
              refine Till.pure 7 rfl rfl (by kernel_rfl) (NoPanic.noFrame _) HSU.out ?_
              go_big_quiet_step (fail)
              refine wpQuiet_nil ?_
              refine Till.load 8 46 _ ⟨gz, oz + cz * 38, none⟩ (.agg (xoz.cs xpz xcz).toArray) rfl rfl rfl rfl (by kernel_rfl) (NoPanic.noFrame _) HSU.out (fun w' hw' => run_loadAgg Tryz.underlying46 rfl (by rw [opInfo, H38z.out]) (HCz.out.of_block (hw'.block _ (by omega)))) ?_
              go_simp
              refine Till.load 9 46 _ ⟨k6, 0, none⟩ (.agg (xo.cs xp xc).toArray) rfl rfl rfl rfl (by kernel_rfl) (NoPanic.noFrame _) HSU.out (fun w' hw' => run_loadAgg Tryz.underlying46 rfl (by rw [opInfo, H38x.out]) (HC9.out.of_block (hw'.block _ (by omega)))) ?_
              go_simp
              have hcb := same_any xoz xo HOKz.out.1 HXOK.out.1 xpz xp xcz xc wU (HOKz.out.2.below HSU.out hNUa) (HS9.out.below HSU.out hNUa)
              rw [decide_eq_true HQz.out] at hcb
              have HCBU := Lib.hid hcb
              clear hcb
              refine Till.act 10 rfl rfl (by kernel_rfl) rfl ?_
              intro K hK
              go_wp2_with (go_at_call 23; refine HCBU.out.mono ?_; rintro e wB ⟨rfl, hbB⟩)
              have hzB := hbB.size
              have hSB := HSU.out.trans (hbB.mono (by omega))
              refine hK _ _ hSB ?_
              clear hK K
              go_simp
              have HSB := Lib.hid hSB
              clear hSB hbB
              refine Till.tail _ rfl rfl (by kernel_rfl) (by kernel_rfl) ?_
              have HFINU := Lib.hid (HFINV.out.trans ((HSB.out.mono hNUa).mono hzz9))
              clear hltz hliz hwiz
              go_wp2
              refine NoPanic.normal ?_
              go_wp2
              go_roundw
              case rel => exact ⟨n + 1, by omega, by rw [cntP_f HEn.out HPA.out, ← HCY.out], by rw [cntP_t HEn.out HPB.out, ← HCZ.out]; go_num, by go_num, HFINU⟩
              case measure => simp [intOf] <;> omega
        · obtain rfl : n = X.length := by omega
          rw [cntP_all HYE.out, cntP_all HZE.out]
          have HBr := Lib.hid (HB2Z.out.trans (HB.out.mono hz2Z))
          have hzB := HBr.out.size
          have HKY := Lib.hid (fun (kinds : List Int) (pk : Option Addr) (ck : Nat) (wz : World) (hb : Below w2.heap.size w2 wz) (hs : Src wz pk (kinds.map (Value.int .i64))) (hk : kinds.length ≤ 1000000000) => keys_any kinds pk ck b mo mw mt BD O W TT wz (HD.out.under hb) HIN.out (by omega) hs hk)
          obtain ⟨K0, hK0⟩ : ∃ K, K = keysL (O.map E3.ent) [ka, kb] := ⟨_, rfl⟩
          obtain ⟨K1, hK1⟩ : ∃ K, K = keysL (O.map E3.ent) [ka] := ⟨_, rfl⟩
          obtain ⟨K2, hK2⟩ : ∃ K, K = keysL (O.map E3.ent) [kb] := ⟨_, rfl⟩
          have HKP := Lib.hid (show ascL (K1 ++ K2) = K0 by rw [hK0, hK1, hK2]; exact (keysL_pair _ ka kb).symm)
          have h0 := HKY.out [ka, kb] (some ⟨wr.heap.size, 0, none⟩) 2 (wr.alloc (.cells #[.int .i64 ka, .int .i64 kb] 3)) (HBr.out.alloc hzB _) (src_pair wr ka kb _) (by simp)
          rw [← hK0] at h0
          have HK0 := Lib.hid h0
          have HK1 := Lib.hid hK1
          have HK2 := Lib.hid hK2
          have hK1l : K1.length ≤ 30 := by rw [hK1]; exact Nat.le_trans (keysL_len _ _) (by rw [List.length_map]; omega)
          have hK2l : K2.length ≤ 30 := by rw [hK2]; exact Nat.le_trans (keysL_len _ _) (by rw [List.length_map]; omega)
          have hK0l : K0.length ≤ 30 := by rw [hK0]; exact Nat.le_trans (keysL_len _ _) (by rw [List.length_map]; omega)
          clear h0 hK0 hK1 hK2
          go_wp2_with fail
          refine HK0.out.mono ?_
          rintro e w11 ⟨p0, c0, rfl, ho0, hb11⟩
          have hz11 := hb11.size
          have HBr1 := Lib.hid (show Below w2.heap.size w2 w11 from (HBr.out.alloc hzB _).trans (hb11.mono (Nat.le_trans hzB (by simp))))
          have hzB1 := HBr1.out.size
          have HO0 := Lib.hid ho0
          have h1 := HKY.out [ka] (some ⟨w11.heap.size, 0, none⟩) 1 (w11.alloc (.cells #[.int .i64 ka] 3)) (HBr1.out.alloc hzB1 _) (src_one w11 ka _) (by simp)
          rw [← HK1.out] at h1
          have HK1' := Lib.hid h1
          clear h1 ho0 hb11
          go_wp2_with fail
          refine HK1'.out.mono ?_
          rintro e w12 ⟨p1, c1, rfl, ho1, hb12⟩
          have hz12 := hb12.size
          have HB1112 := Lib.hid (show Below w11.heap.size w11 w12 from ((Below.refl _ w11).alloc (Nat.le_refl _) _).trans (hb12.mono (by simp)))
          have HBr2 := Lib.hid (HBr1.out.trans (HB1112.out.mono hzB1))
          have hzB2 := HBr2.out.size
          have HO1 := Lib.hid ho1
          have h1 := HKY.out [kb] (some ⟨w12.heap.size, 0, none⟩) 1 (w12.alloc (.cells #[.int .i64 kb] 3)) (HBr2.out.alloc hzB2 _) (src_one w12 kb _) (by simp)
          rw [← HK2.out] at h1
          have HK2' := Lib.hid h1
          clear h1 ho1 hb12
          go_wp2_with fail
          refine HK2'.out.mono ?_
          rintro e w13 ⟨p2, c2, rfl, ho2, hb13⟩
          have hz13 := hb13.size
          have HB1213 := Lib.hid (show Below w12.heap.size w12 w13 from ((Below.refl _ w12).alloc (Nat.le_refl _) _).trans (hb13.mono (by simp)))
          have HO13 := Lib.hid (orow_under HO1.out HB1213.out)
          have HS2 := Lib.hid (Owns.of ho2)
          have HB1113 := Lib.hid (HB1112.out.trans (HB1213.out.mono HB1112.out.size))
          have hz1113 := HB1113.out.size
          have hz1112 := HB1112.out.size
          obtain ⟨is, his, hsz0, hsz1, hsz2⟩ := info_parts strInfo
          clear ho2 hb13
          have hbs : w11.heap.size + 1 ≤ w13.heap.size := by
            have := hz12
            rw [World.size_alloc] at this
            have := HB1213.out.size
            omega
          have HOX := Lib.hid (show w13.ownsRow (w11.heap.size + 1) 9 1 (.slice p1 K1.length c1) K1.length (scs K1) by simpa using HO13.out)
          go_wp2_with (at_builtin; refine wpList_wanted _ (by rfl) fun K' hK' => ?_; refine (wp_append_src _ _ 51 rfl (w11.heap.size + 1) 9 is _ 1 16 Tryz.underlying51 his hsz0 hsz1 hsz2 (by rfl) (by omega) (.slice p1 K1.length c1) K1.length (scs K1) (by rfl) HOX.out p2 K2.length c2 (scs K2) (by rfl) (by rw [scs_length]; omega) HS2.out.srcOf.at_ HS2.out.spot (scs_one _) (by unfold maxLen; omega) (by omega) (by omega) ?_); intro v9 w9 hown9 hg9 hs9; refine hK' _ _ ?_; obtain ⟨p9, c9, hp9⟩ := (Owns.of hown9).form; subst hp9)
          have HB119 := Lib.hid (HB1113.out.grown hg9 hz1113 (fun k e => by have := (orow_lt HOX.out e).1; omega))
          have HBr9 := Lib.hid (HBr1.out.trans (HB119.out.mono hzB1))
          have HS0 := Lib.hid ((Owns.srcOf (Owns.of HO0.out)).below HB119.out (Nat.le_refl _))
          have hr := ristx_any (K1 ++ K2) p9 c9 w9 (show Src w9 p9 (scs (K1 ++ K2)) from by
            have h1 := Owns.srcOf (Owns.of hown9)
            simpa [scs] using h1) (by rw [List.length_append]; omega)
          rw [List.length_append, HKP.out] at hr
          have HR9 := Lib.hid hr
          have hzB9 := HBr9.out.size
          clear hr hown9 hg9 hs9
          refine HR9.out.mono ?_
          rintro e w14 ⟨vR, rfl, hoR, hb14⟩
          obtain ⟨pR, cR, hpR⟩ := hoR.form
          subst hpR
          have HSM := Lib.hid (tsame_any K0 p0 pR c0 cR w14 (HS0.out.below hb14 (Nat.le_refl _)) (Owns.srcOf hoR) (by omega))
          have HB14 := Lib.hid (HBr9.out.trans (hb14.mono hzB9))
          clear hoR hb14
          go_wp2_with fail
          refine HSM.out.mono ?_
          rintro e w15 ⟨rfl, hb15⟩
          have HB15 := Lib.hid (HB2.out.trans ((HB14.out.trans (hb15.mono HB14.out.size)).mono HB2.out.size))
          clear hb15
          go_wp2
          go_ret
          exact ⟨rfl, HB15.out⟩
end Go.Proofs.YtfoifdhcelcgiaaGreatDoor
