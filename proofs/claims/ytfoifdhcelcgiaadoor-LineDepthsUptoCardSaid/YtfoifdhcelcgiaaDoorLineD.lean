/-
  LineDepths, walked: in the row depths never fall, and names of one depth rise; Row has the operations of Order.
-/
import Derived.Test.YtfoifdhcelcgiaaDoorLineA
import Derived.Test.YtfoifdhcelcgiaaDoorLineT
import Derived.Test.YtfoifdhcelcgiaaDoorJn
namespace Go.Proofs.YtfoifdhcelcgiaaDoor
open Go Go.RowKit

section
variable {P : Program} (w : World) {ops : Array Oper} {rest : List Oper} {o : Oper} {a : Act} {Q : Exit → Act → World → Prop}
theorem wpList_wanted (hw : Region.wanted o (yielded ops a.tmps) = true) (h : ∀ K : Act → World → Prop, (∀ a w, wpList P ops Q rest a w → K a w) → o.wp P a w K Q) : wpList P ops Q (o :: rest) a w := by
  unfold wpList
  rw [if_pos hw]
  exact .inl (h _ (fun _ _ h => h))
/-- a load behind a guard that lets it by -/
theorem wpList_loadAggW (t : TypeId) (x : Operand) (hop : o.op = .load t x) (hw : Region.wanted o (yielded ops a.tmps) = true) (d : TypeDesc) (hu : P.underlying t = some d) (hd : isRowD d = true)
    (b off : Nat) (hx : a.eval x = .pointer (some ⟨b, off, none⟩)) (cs : List Value) (hi : (P.info? t).map (·.size) = some cs.length) (hc : cellsAt w b off cs)
    (h : wpList P ops Q rest (a.put o.dst (.agg cs.toArray)) w) : wpList P ops Q (o :: rest) a w := by
  refine wpList_wanted w hw fun K' hK' => ?_
  unfold Oper.wp execOp
  simp only [hop, hx, Instr.loadAt, Instr.sureAddr, Sem.run_bind, Sem.run_pure, Result.andThen_ok, run_loadAgg hu hd hi hc]
  exact hK' _ _ h
end
theorem there_row {O R : List E3} (hd : (namesOf (O.map E3.ent)).Nodup) (hR : R.map E3.ent = rowL (O.map E3.ent)) {n : Nat} {e : E3} (he : R[n]? = some e) {x : Nm} (hx : (namesOf (rowL (O.map E3.ent)))[n]? = some x) {o : OpV} (ht : There O x o) : o = e.o := by
  have h1 : (rowL (O.map E3.ent))[n]? = some e.ent := by rw [← hR, List.getElem?_map, he]; rfl
  have h2 : x = e.n := by
    unfold namesOf at hx
    rw [List.getElem?_map, h1] at hx
    exact (Option.some.inj hx).symm
  have h3 := opAt_mem hd (rowL_mem.1 (List.mem_of_getElem? h1) : (e.n, e.o) ∈ O.map E3.ent)
  have h4 := ht.at_
  rw [h2, h3] at h4
  exact (Option.some.inj h4).symm
theorem row_bef {O W R : List E3} (hI : DInv ⟨O.map E3.ent, W.map E3.ent⟩) (hR : R.map E3.ent = rowL (O.map E3.ent)) {k n : Nat} (hkn : k < n) {x y : E3} (hx : R[k]? = some x) (hy : R[n]? = some y) : befO x.o y.o = true := by
  have hst := rowL_strict hI.nd1
  have hnm : ∀ z ∈ R, z.n = nameB z.o := fun z hz => by
    have h1 : z.ent ∈ rowL (O.map E3.ent) := by rw [← hR]; exact List.mem_map.2 ⟨z, hz, rfl⟩
    exact hI.named z.ent (List.mem_append.2 (.inl (rowL_mem.1 h1)))
  have h1 := hnm x (List.mem_of_getElem? hx)
  have h2 := hnm y (List.mem_of_getElem? hy)
  have hst' : (R.map E3.ent).Pairwise fun x y => bef x y = true := by rw [hR]; exact hst
  rw [List.pairwise_map] at hst'
  obtain ⟨hk, hxk⟩ := List.getElem?_eq_some_iff.1 hx
  obtain ⟨hn, hyn⟩ := List.getElem?_eq_some_iff.1 hy
  have h3 := List.pairwise_iff_getElem.1 hst' k n hk hn hkn
  rw [hxk, hyn] at h3
  unfold befO
  rw [← h1, ← h2]
  exact h3

set_option maxRecDepth 100000 in
set_option maxHeartbeats 16000000 in
theorem depths_any (M : List MkV) (hM : ∀ m ∈ M, m.Ok) (p : Option Addr) (cap : Nat) (w : World) (hT : Tabs w) (hs : Src w p (mcs M)) (hps : ∀ m ∈ M, Src w m.p (pcs m.o.preds)) (hMl : M.length ≤ 1000000000) :
    Calls Tryd.prog 6 #[.slice p M.length cap] w fun e w' => e = .returned (.bool true) ∧ Below w.heap.size w w' := by
  obtain ⟨hz, hid⟩ := info_two idInfo
  obtain ⟨hzo, _⟩ := info_two opZero
  have HZ := Lib.hid hz
  have HI := Lib.hid hid
  have HZO := Lib.hid hzo
  have HM := Lib.hid hM
  have HS := Lib.hid hs
  have HPS := Lib.hid hps
  have HT := Lib.hid hT
  clear hz hid hzo hM hs hps hT
  go_enter Tryd.func6, Tryd.ntmps6
  go_upto_region 3 with (go_at_call 25; refine (alive11_any w HT.out).mono ?_; rintro e w1 ⟨rfl, hb1⟩)
  have hz1 := hb1.size
  have HB1 := Lib.hid hb1
  have HCB := Lib.hid (both_any M HM.out p cap w1 (HT.out.of_below hb1 HT.out.2.2) (HS.out.below hb1 (Nat.le_refl _)) (fun m hm => (HPS.out m hm).below hb1 (Nat.le_refl _)) hMl)
  clear hb1
  go_upto_region 4 with (go_at_call 26; refine HCB.out.mono ?_; rintro e w2 ⟨b, b2, O, W, O2, W2, rfl, hbo⟩)
  have hlen := hbo.len
  have hz2 := hbo.below.size
  have HB2 := Lib.hid (HB1.out.trans (hbo.below.mono hz1))
  obtain ⟨mo, mw, mt, BD, T, hdag⟩ := hbo.dag
  have HD := Lib.hid hdag
  have HIN := Lib.hid hbo.inv
  obtain ⟨X, hX⟩ : ∃ X, X = namesOf (rowL (O.map E3.ent)) := ⟨_, rfl⟩
  have hco := order_any b mo mw mt BD O W T w2 HD.out HIN.out (by omega)
  rw [← hX] at hco
  have HCO := Lib.hid hco
  have HCR := Lib.hid (fun wz (hb : Below w2.heap.size w2 wz) => row_any b mo mw mt BD O W T wz (HD.out.under hb) HIN.out (by omega))
  have HXM := Lib.hid (show ∀ x ∈ X, x ∈ O.map (·.n) from fun x hx => by
    rw [hX] at hx
    obtain ⟨e, he, rfl⟩ := List.mem_map.1 hx
    obtain ⟨e3, he3, rfl⟩ := List.mem_map.1 (rowL_mem.1 he)
    exact List.mem_map.2 ⟨e3, he3, rfl⟩)
  have HX32 := Lib.hid (show ∀ x ∈ X, x.length = 32 from fun x hx => by
    obtain ⟨e, he, rfl⟩ := List.mem_map.1 (HXM.out x hx)
    exact (HD.out.okO e he).len)
  have HXH := Lib.hid (show ∀ x ∈ X, hasN (O.map E3.ent) x = true from fun x hx => (hasN_mem O x).2 (HXM.out x hx))
  have HXX := Lib.hid hX
  have HXl := Lib.hid (show X.length = O.length by rw [hX]; unfold namesOf; rw [List.length_map, rowL_length, List.length_map])
  have hXl2 : X.length ≤ 30 := by rw [HXl.out]; omega
  clear hbo hdag hco hX
  go_upto_region 5 with (first
    | (go_at_call 27; refine HCO.out.mono ?_; rintro e w3 ⟨vX, rfl, hoX, hb3⟩; obtain ⟨pX, cX, rfl⟩ := hoX.form)
    | (go_at_call 28; refine (HCR.out w3 hb3).mono ?_; rintro e w4 ⟨vR, R, BR, rfl, hRE, hRO⟩; obtain ⟨pR, cR, hpR⟩ := hRO.own.form; subst hpR))
  have hz3 := hb3.size
  have hz4 := hRO.below.size
  have HRE := Lib.hid hRE
  have HRO := Lib.hid hRO
  have HRl := Lib.hid (show R.length = X.length by rw [HXl.out, ← List.length_map (f := E3.ent), HRE.out, rowL_length, List.length_map])
  have HB24 := Lib.hid (hb3.trans (hRO.below.mono hz3))
  have HSX := Lib.hid ((Owns.srcOf hoX).below hRO.below (Nat.le_refl _))
  have HSR := Lib.hid hRO.own.srcOf
  have HR38 := Lib.hid hRO.cs38
  have hRl2 : R.length ≤ 30 := by rw [HRl.out]; exact hXl2
  have hne : ((X.length : Int) != (R.length : Int)) = false := by rw [HRl.out]; simp
  clear hRE hRO hb3 hoX
  go_upto_region 8 with fail
  clear hne
  go_loopw [29] (fun i wr => ∃ n : Nat, n ≤ R.length ∧ i = .int .i64 n ∧ Hid (Below w4.heap.size w4 wr)) (fun i _ => R.length - (intOf i).toNat)
  case atStart => exact ⟨0, by omega, rfl, Lib.hid (Below.refl _ _)⟩
  case round =>
    obtain ⟨n, hn1, rfl, HB⟩ := hrel
    have hzr := HB.out.size
    by_cases hlt : n < R.length
    · have hltX : n < X.length := by rw [← HRl.out]; exact hlt
      have hltX2 : (n : Int) < (X.length : Int) := by omega
      obtain ⟨ex, gx, ox, hx1, _, hx3, hpx, hx4⟩ := op_at (HSR.out.below HB.out (Nat.le_refl _)).at_ HR38.out hlt
      obtain ⟨xx, gy, oy, hy1, hy2, hy3, hpy, hy4⟩ := pred_at (HSX.out.below HB.out (Nat.le_refl _)).at_ HX32.out hltX
      subst hpx hpy
      have hgx := cellsAt_lt hx4 (by rw [HR38.out ex hx3]; omega)
      have hgy := bcs_at_lt hy4 hy3
      have HOKx := Lib.hid (HRO.out.okR ex hx3)
      have HEX := Lib.hid (show (ex.Ok wr BR) from HOKx.out.keeps HB.out.size (fun i hi _ => HB.out.block i hi))
      have HEn := Lib.hid hx1
      have HRA := Lib.hid (show cellsAt wr gx (ox + n * 38) ex.cs from hx4)
      obtain ⟨xo, hxo⟩ : ∃ y, y = ex.o := ⟨_, rfl⟩
      obtain ⟨xp, hxp⟩ : ∃ y, y = ex.p := ⟨_, rfl⟩
      obtain ⟨xc, hxc⟩ : ∃ y, y = ex.c := ⟨_, rfl⟩
      have hcsx : ex.cs = xo.cs xp xc := by rw [hxo, hxp, hxc]; rfl
      have HXO := Lib.hid hxo
      have HCx := Lib.hid (show cellsAt wr gx (ox + n * 38) (xo.cs xp xc) by rw [← hcsx]; exact hx4)
      have H38x := Lib.hid (show (xo.cs xp xc).length = 38 by rw [← hcsx]; exact HR38.out ex hx3)
      have HXOK := Lib.hid (show xo.Ok ∧ Src wr xp (pcs xo.preds) by rw [hxo, hxp]; exact ⟨HEX.out.ok, HEX.out.src⟩)
      have HON := Lib.hid (OpV.cs_one xo xp xc)
      have HOZ := Lib.hid (show (zeroOp.cs none 0).toArray.size = (xo.cs xp xc).toArray.size by rw [List.size_toArray, List.size_toArray, H38x.out]; rfl)
      have HL := Lib.hid hy3
      have HCy := Lib.hid (show cellsAt wr gy (oy + n * 32) (bcs xx) from hy4)
      have HHx := Lib.hid (HXH.out xx (List.mem_of_getElem? hy1))
      have HYn := Lib.hid (show (namesOf (rowL (O.map E3.ent)))[n]? = some xx by rw [← HXX.out]; exact hy1)
      clear hcsx hxo hxp hxc hx1 hx3 hx4 hy1 hy2 hy3 hy4
      go_upto_region 10 with (first
        | (refine wpList_loadAgg _ rfl 38 _ rfl _ Tryd.underlying38 rfl gx (ox + n * 38) (by rfl) (xo.cs xp xc) (by rw [opInfo, H38x.out]) HCx.out ?_)
        | (refine wpList_allocZ _ rfl 38 rfl _ HZO.out ?_)
        | (refine wpList_storeNew _ wr rfl 38 _ _ rfl (zeroOp.cs none 0).toArray rfl (by rfl) (xo.cs xp xc).toArray (by rfl) (by rw [opInfo, List.size_toArray, H38x.out]) HOZ.out (by simpa using HON.out) ?_))
      obtain ⟨w6, hw6⟩ : ∃ w6, w6 = wr.alloc (.cells (xo.cs xp xc).toArray 38) := ⟨_, rfl⟩
      rw [← hw6]
      obtain ⟨k6, hk6⟩ : ∃ k, k = wr.heap.size := ⟨_, rfl⟩
      rw [← hk6]
      have hb6 : Below wr.heap.size wr w6 := by rw [hw6]; exact (Below.refl _ wr).alloc (Nat.le_refl _) _
      have hz6 := hb6.size
      have hk66 : k6 < w6.heap.size := by rw [hw6, hk6]; simp
      have HC6 := Lib.hid (show cellsAt w6 k6 0 (xo.cs xp xc) by rw [hw6, hk6]; simpa using cellsAt_new wr (xo.cs xp xc).toArray 38)
      have HB6 := Lib.hid hb6
      have HCy6 := Lib.hid (HCy.out.of_block (hb6.block _ hgy))
      have HG := Lib.hid (get_hit (HD.out.under (HB24.out.trans ((HB.out.trans (hb6.mono hzr)).mono (by omega)))) HIN.out HL.out HHx.out)
      clear hw6 hk6 hb6
      go_upto_region 11 with (first
        | (refine wpList_loadAgg _ rfl 34 _ rfl _ Tryd.underlying34 rfl gy (oy + n * 32) (by rfl) (bcs xx) (by rw [HI.out, bcs_length, HL.out]) HCy6.out ?_)
        | (go_at_call 12; refine HG.out.mono ?_; rintro e w7 ⟨oo, po, co, hth, rfl, hown, hb7⟩)
        | (refine wpList_allocZ _ rfl 38 rfl _ HZO.out ?_)
        | (refine wpList_storeNew _ w7 rfl 38 _ _ rfl (zeroOp.cs none 0).toArray rfl (by rfl) (oo.cs po co).toArray (by rfl) (by rw [opInfo, List.size_toArray, OpV.cs_length hth.ok]) (show 38 = (oo.cs po co).toArray.size by rw [List.size_toArray, OpV.cs_length hth.ok]) (by simpa using OpV.cs_one oo po co) ?_))
      obtain rfl : oo = xo := by rw [HXO.out]; exact there_row HIN.out.nd1 HRE.out HEn.out HYn.out hth
      obtain ⟨w8, hw8⟩ : ∃ w8, w8 = w7.alloc (.cells (oo.cs po co).toArray 38) := ⟨_, rfl⟩
      rw [← hw8]
      obtain ⟨k9, hk9⟩ : ∃ k, k = w7.heap.size := ⟨_, rfl⟩
      rw [← hk9]
      have hb8 : Below w7.heap.size w7 w8 := by rw [hw8]; exact (Below.refl _ _).alloc (Nat.le_refl _) _
      have hz7 := hb7.size
      have hk98 : k9 < w8.heap.size := by rw [hw8, hk9]; simp
      have HC9 := Lib.hid (show cellsAt w8 k9 0 (oo.cs po co) by rw [hw8, hk9]; simpa using cellsAt_new w7 (oo.cs po co).toArray 38)
      have hb68 : Below w6.heap.size w6 w8 := hb7.trans (hb8.mono hz7)
      have hz68 := hb68.size
      have HC68 := Lib.hid (HC6.out.of_block (hb68.block _ hk66))
      have HBr8 := Lib.hid (HB6.out.trans (hb68.mono hz6))
      have HSo := Lib.hid ((Owns.srcOf hown).below hb8 (Nat.le_refl _))
      have HSx := Lib.hid (HXOK.out.2.below HBr8.out (Nat.le_refl _))
      have H389 := Lib.hid (OpV.cs_length HXOK.out.1 po co)
      have HCS := Lib.hid (same_self oo HXOK.out.1 po xp co xc w8 HSo.out HSx.out)
      clear hw8 hk9 hb8 hb68 hb7 hown hth
      go_upto_region 13 with (first
        | (refine wpList_loadAggW _ 38 _ rfl (by rfl) _ Tryd.underlying38 rfl k9 0 (by rfl) (oo.cs po co) (by rw [opInfo, H389.out]) HC9.out ?_)
        | (refine wpList_loadAggW _ 38 _ rfl (by rfl) _ Tryd.underlying38 rfl k6 0 (by rfl) (oo.cs xp xc) (by rw [opInfo, H38x.out]) HC68.out ?_)
        | (go_at_call 17; refine HCS.out.mono ?_; rintro e w9 ⟨rfl, hb9⟩))
      have hz9 := hb9.size
      have HBr9 := Lib.hid (HBr8.out.trans (hb9.mono (by omega)))
      have HC69 := Lib.hid (HC68.out.of_block (hb9.block _ (by omega)))
      have HSx9 := Lib.hid (HSx.out.below hb9 (Nat.le_refl _))
      have HB49 := Lib.hid (HB.out.trans (HBr9.out.mono hzr))
      have HBw9 := Lib.hid (HB2.out.trans ((HB24.out.trans (HB49.out.mono (by omega))).mono HB2.out.size))
      have hz49 := HB49.out.size
      clear hb9
      by_cases hn0 : n = 0
      · have hgt : decide ((n : Int) > 0) = false := by rw [hn0]; rfl
        obtain ⟨NV, hNVa, hNVb⟩ : ∃ n, w9.heap.size ≤ n ∧ n ≤ w9.heap.size := ⟨_, Nat.le_refl _, Nat.le_refl _⟩
        refine wp_region_noPanic ?_
        refine wp_region_till 11 (fun w' => Below NV w9 w') (by kernel_rfl) (by kernel_rfl) ?_
        obtain ⟨wV, hwV⟩ : ∃ wV, wV = w9.drew := ⟨_, rfl⟩
        have hSwV : Below NV w9 wV := by rw [hwV]; exact (Below.refl NV w9).drew
        rw [← hwV]
        have HSV := Lib.hid hSwV
        have hzwV : w9.heap.size ≤ wV.heap.size := by rw [hwV]; exact Nat.le_refl _
        clear hwV hSwV
        go_simp
        refine Till.pure 0 rfl rfl (by kernel_rfl) (NoPanic.noFrame _) HSV.out ?_
        go_big_quiet_step (fail)
        refine wpQuiet_nil ?_
        refine Till.pure 1 rfl rfl (by kernel_rfl) (NoPanic.noFrame _) HSV.out ?_
        go_big_quiet_step (fail)
        refine wpQuiet_nil ?_
        refine Till.pure 2 rfl rfl (by kernel_rfl) (NoPanic.noFrame _) HSV.out ?_
        go_big_quiet_step (fail)
        refine wpQuiet_nil ?_
        refine Till.pass 3 rfl (by rfl) (by kernel_rfl) (NoPanic.noFrame _) HSV.out ?_
        go_simp
        refine Till.pass 4 rfl (by rfl) (by kernel_rfl) (NoPanic.noFrame _) HSV.out ?_
        go_simp
        refine Till.pass 5 rfl (by rfl) (by kernel_rfl) (NoPanic.noFrame _) HSV.out ?_
        go_simp
        refine Till.pass 6 rfl (by rfl) (by kernel_rfl) (NoPanic.noFrame _) HSV.out ?_
        go_simp
        refine Till.pass 7 rfl (by rfl) (by kernel_rfl) (NoPanic.noFrame _) HSV.out ?_
        go_simp
        refine Till.pass 8 rfl (by rfl) (by kernel_rfl) (NoPanic.noFrame _) HSV.out ?_
        go_simp
        refine Till.pass 9 rfl (by rfl) (by kernel_rfl) (NoPanic.noFrame _) HSV.out ?_
        go_simp
        refine Till.pass 10 rfl (by rfl) (by kernel_rfl) (NoPanic.noFrame _) HSV.out ?_
        go_simp
        refine Till.tail _ rfl rfl (by kernel_rfl) (by kernel_rfl) ?_
        have HFIN := Lib.hid (HB49.out.trans ((HSV.out.mono hNVa).mono hz49))
        go_wp2
        refine NoPanic.normal ?_
        clear hgt
        go_wp2
        go_roundw
        case rel => exact ⟨n + 1, by omega, by go_num, HFIN⟩
        case measure => simp [intOf] <;> omega
      · obtain ⟨k, rfl⟩ : ∃ k, n = k + 1 := ⟨n - 1, by omega⟩
        have hgt : decide (((k + 1 : Nat) : Int) > 0) = true := decide_eq_true (by omega)
        obtain ⟨ez, gz, oz, hz1', _, hz3', hpz, hz4'⟩ := op_at (HSR.out.below HB49.out (Nat.le_refl _)).at_ HR38.out (show k < R.length by omega)
        simp only [Option.some.injEq, Addr.mk.injEq, and_true] at hpz
        obtain ⟨rfl, rfl⟩ := hpz
        have HOKz := Lib.hid ((HRO.out.okR ez hz3').keeps HB49.out.size (fun i hi _ => HB49.out.block i hi))
        obtain ⟨zo, hzo⟩ : ∃ y, y = ez.o := ⟨_, rfl⟩
        obtain ⟨zp, hzp⟩ : ∃ y, y = ez.p := ⟨_, rfl⟩
        obtain ⟨zc, hzc⟩ : ∃ y, y = ez.c := ⟨_, rfl⟩
        have hcsz : ez.cs = zo.cs zp zc := by rw [hzo, hzp, hzc]; rfl
        have HCz := Lib.hid (show cellsAt w9 gx (ox + k * 38) (zo.cs zp zc) by rw [← hcsz]; exact hz4')
        have H38z := Lib.hid (show (zo.cs zp zc).length = 38 by rw [← hcsz]; exact HR38.out ez hz3')
        have HZOK := Lib.hid (show zo.Ok ∧ Src w9 zp (pcs zo.preds) by rw [hzo, hzp]; exact ⟨HOKz.out.ok, HOKz.out.src⟩)
        have HBEF := Lib.hid (show befO zo oo = true by rw [hzo, HXO.out]; exact row_bef HIN.out HRE.out (Nat.lt_succ_self k) hz1' HEn.out)
        have hgx9 : gx < w9.heap.size := by omega
        clear hz1' hz3' hz4' hzo hzp hzc hcsz hn0
        obtain ⟨NV, hNVa, hNVb⟩ : ∃ n, w9.heap.size ≤ n ∧ n ≤ w9.heap.size := ⟨_, Nat.le_refl _, Nat.le_refl _⟩
        refine wp_region_noPanic ?_
        refine wp_region_till 11 (fun w' => Below NV w9 w') (by kernel_rfl) (by kernel_rfl) ?_
        obtain ⟨wV, hwV⟩ : ∃ wV, wV = w9.drew := ⟨_, rfl⟩
        have hSwV : Below NV w9 wV := by rw [hwV]; exact (Below.refl NV w9).drew
        rw [← hwV]
        have HSV := Lib.hid hSwV
        have hzwV : w9.heap.size ≤ wV.heap.size := by rw [hwV]; exact Nat.le_refl _
        clear hwV hSwV
        go_simp
        refine Till.pure 0 rfl rfl (by kernel_rfl) (NoPanic.noFrame _) HSV.out ?_
        go_big_quiet_step (fail)
        refine wpQuiet_nil ?_
        refine Till.pure 1 rfl rfl (by kernel_rfl) (NoPanic.noFrame _) HSV.out ?_
        go_big_quiet_step (fail)
        refine wpQuiet_nil ?_
        refine Till.pure 2 rfl rfl (by kernel_rfl) (NoPanic.noFrame _) HSV.out ?_
        go_big_quiet_step (fail)
        refine wpQuiet_nil ?_
        refine Till.pure 3 rfl rfl (by kernel_rfl) (NoPanic.noFrame _) HSV.out ?_
        go_big_quiet_step (fail)
        refine wpQuiet_nil ?_
        refine Till.pure 4 rfl rfl (by kernel_rfl) (NoPanic.noFrame _) HSV.out ?_
        go_big_quiet_step (fail)
        refine wpQuiet_nil ?_
        have hwk : IntKind.i64.wrap (((k + 1 : Nat) : Int) - 1) = (k : Int) := by rw [show ((k + 1 : Nat) : Int) - 1 = (k : Int) by omega]; exact i64_nat k (by omega)
        have hwk2 : IntKind.i64.wrap (k : Int) = (k : Int) := i64_nat k (by omega)
        have hklt : (k : Int) < (R.length : Int) := by omega
        refine Till.pure 5 rfl rfl (by kernel_rfl) (NoPanic.noFrame _) HSV.out ?_
        go_big_quiet_step (fail)
        refine wpQuiet_nil ?_
        refine Till.pure 6 rfl rfl (by kernel_rfl) (NoPanic.noFrame _) HSV.out ?_
        go_big_quiet_step (fail)
        refine wpQuiet_nil ?_
        refine Till.load 7 38 _ ⟨gx, ox + k * 38, none⟩ (.agg (zo.cs zp zc).toArray) rfl rfl rfl rfl (by kernel_rfl) (NoPanic.noFrame _) HSV.out (fun w' hw' => run_loadAgg Tryd.underlying38 rfl (by rw [opInfo, H38z.out]) (HCz.out.of_block (hw'.block _ (by omega)))) ?_
        go_simp
        refine Till.load 8 38 _ ⟨k6, 0, none⟩ (.agg (oo.cs xp xc).toArray) rfl rfl rfl rfl (by kernel_rfl) (NoPanic.noFrame _) HSV.out (fun w' hw' => run_loadAgg Tryd.underlying38 rfl (by rw [opInfo, H38x.out]) (HC69.out.of_block (hw'.block _ (by omega)))) ?_
        go_simp
        have hcb := before_any zo oo HZOK.out.1 HXOK.out.1 zp xp zc xc wV (HT.out.of_below (HBw9.out.trans ((HSV.out.mono hNVa).mono HBw9.out.size)) HT.out.2.2) (HZOK.out.2.below HSV.out hNVa) (HSx9.out.below HSV.out hNVa)
        rw [HBEF.out] at hcb
        have HCB := Lib.hid hcb
        clear hcb hwk hwk2 hklt
        refine Till.act 9 rfl rfl (by kernel_rfl) rfl ?_
        intro K hK
        go_wp2_with (go_at_call 29; refine HCB.out.mono ?_; rintro e wA ⟨rfl, hbA⟩)
        have hzA := hbA.size
        have hSA := HSV.out.trans (hbA.mono (by omega))
        refine hK _ _ hSA ?_
        clear hK K
        go_simp
        have HSA := Lib.hid hSA
        clear hSA hbA
        refine Till.pure 10 rfl rfl (by kernel_rfl) (NoPanic.noFrame _) HSA.out ?_
        go_big_quiet_step (fail)
        refine wpQuiet_nil ?_
        refine Till.tail _ rfl rfl (by kernel_rfl) (by kernel_rfl) ?_
        have HFIN := Lib.hid (HB49.out.trans ((HSA.out.mono hNVa).mono hz49))
        go_wp2
        refine NoPanic.normal ?_
        clear hgt
        go_wp2
        go_roundw
        case rel => exact ⟨k + 1 + 1, by omega, by go_num, HFIN⟩
        case measure => simp [intOf] <;> omega
    · obtain rfl : n = R.length := by omega
      go_wp2
      go_ret
      exact ⟨rfl, HB2.out.trans ((HB24.out.trans (HB.out.mono (by omega))).mono HB2.out.size)⟩
end Go.Proofs.YtfoifdhcelcgiaaDoor
