/-
  DagDoes, walked: each answer is the document's; a nil set.
-/
import Derived.Test.YtfoifdhcelcgiaaDoorJn
namespace Go.Proofs.YtfoifdhcelcgiaaDoor
open Go Go.RowKit

set_option maxRecDepth 100000 in
set_option maxHeartbeats 40000000 in
theorem does_any (M : List MkV) (hM : ∀ m ∈ M, m.Ok) (p : Option Addr) (cap : Nat) (w : World) (hT : Tabs w) (hs : Src w p (mcs M)) (hps : ∀ m ∈ M, Src w m.p (pcs m.o.preds)) (hMl : M.length ≤ 1000000000) (a : Option Addr) (capz : Nat) (zs : List Int) (hA : IntsAt w a zs) (hzl : zs.length ≤ 9223372036854775807)
    (nm : Nm) (hnm : nm.length = 32) (au : Int) (hau : i64R au) (d : Dr) (hd : d.Ok) :
    Calls Tryd.prog 5 #[.slice p M.length cap, .slice a zs.length capz, idv nm, .int .i64 au, drv d] w fun e w' => e = .returned (.bool true) ∧ Below w.heap.size w w' := by
  obtain ⟨hz, hid⟩ := info_two idInfo
  obtain ⟨hzo, _⟩ := info_two opZero
  have HZ := Lib.hid hz
  have HI := Lib.hid hid
  have HZO := Lib.hid hzo
  have HM := Lib.hid hM
  have HS := Lib.hid hs
  have HPS := Lib.hid hps
  have HT := Lib.hid hT
  have HA := Lib.hid hA
  have HNM := Lib.hid hnm
  have HAU := Lib.hid hau
  have HDD := Lib.hid hd
  have HCD := Lib.hid (Dr.cs_length hd)
  obtain ⟨wI, hwI⟩ : ∃ wI, wI = (w.alloc (.cells (bcs nm).toArray 33)).alloc (.cells d.cs.toArray 36) := ⟨_, rfl⟩
  have hbI : Below w.heap.size w wI := by rw [hwI]; exact ((Below.refl _ w).alloc (Nat.le_refl _) _).alloc (by simp) _
  obtain ⟨k7, hk7⟩ : ∃ k, k = w.heap.size := ⟨_, rfl⟩
  obtain ⟨k9, hk9⟩ : ∃ k, k = w.heap.size + 1 := ⟨_, rfl⟩
  have HK7 := Lib.hid (show cellsAt wI k7 0 (bcs nm) by
    rw [hwI, hk7]
    exact cellsAt.of_block (by simpa using cellsAt_new w (bcs nm).toArray 33) ((MapKept.heap_alloc _ _).2 _ (by simp)))
  have HK9 := Lib.hid (show cellsAt wI k9 0 d.cs by
    rw [hwI, hk9]
    simpa using cellsAt_new (w.alloc (.cells (bcs nm).toArray 33)) d.cs.toArray 36)
  have hzI : w.heap.size + 2 ≤ wI.heap.size := by rw [hwI]; simp
  have hk7w : w.heap.size ≤ k7 := by omega
  have hk79 : k7 < k9 := by omega
  have hk9b : k9 < wI.heap.size := by omega
  have HBI := Lib.hid hbI
  clear hz hid hzo hM hs hps hT hA hnm hau hd hbI
  go_enter Tryd.func5, Tryd.ntmps5
  go_upto_region 1 with (first
    | (refine wpList_boxAgg _ rfl 33 _ rfl (bcs nm).toArray (by rfl) ?_)
    | (refine wpList_boxAgg _ rfl 36 _ rfl d.cs.toArray (by rfl) ?_))
  rw [← hwI]
  try rw [World.size_alloc]
  rw [← hk9, ← hk7]
  clear hwI hk7 hk9
  have HTI := Lib.hid (HT.out.of_below HBI.out HT.out.2.2)
  go_upto_region 3 with (go_at_call 7; refine (alive_any wI HTI.out).mono ?_; rintro e w1 ⟨rfl, hb1⟩)
  have hz1 := hb1.size
  have HB1 := Lib.hid (HBI.out.trans (hb1.mono HBI.out.size))
  have HIB1 := Lib.hid hb1
  have HCM := Lib.hid (made_any M HM.out p cap w1 (HT.out.of_below HB1.out HT.out.2.2) (HS.out.below HB1.out (Nat.le_refl _)) (fun m hm => (HPS.out m hm).below HB1.out (Nat.le_refl _)) hMl)
  clear hb1
  go_upto_region 4 with (go_at_call 8; refine HCM.out.mono ?_; rintro e w2 ⟨v, L, BL, rfl, hmo⟩; obtain ⟨pv, cv, rfl⟩ := hmo.own.form)
  have HMO := Lib.hid hmo
  have hzw1 := HB1.out.size
  have HB2 := Lib.hid (HB1.out.trans (hmo.below.mono hzw1))
  have HIB2 := Lib.hid (HIB1.out.trans (hmo.below.mono hz1))
  have hz2 := hmo.below.size
  have hL30 := hmo.len
  clear hmo
  have HK92 := Lib.hid (show cellsAt w2 k9 0 d.cs from HK9.out.of_block (HIB2.out.block _ hk9b))
  have hck : w2.cell? ⟨k9, 1, none⟩ = some (txt d.key) := by simpa using HK92.out 1 _ rfl
  have hcv : w2.cell? ⟨k9, 2, none⟩ = some (txt d.value) := by simpa using HK92.out 2 _ rfl
  by_cases h60 : 60 < zs.length
  · have d60 : decide ((zs.length : Int) > 60) = true := decide_eq_true (by omega)
    go_wp2_with fail
    go_ret
    exact ⟨rfl, HB2.out⟩
  · have d60 : decide ((zs.length : Int) > 60) = false := decide_eq_false (by omega)
    by_cases hL0 : L.length = 0
    · have dl0 : ((L.length : Int) == 0) = true := by simp [hL0]
      clear hL0
      go_wp2_with fail
      go_ret
      exact ⟨rfl, HB2.out⟩
    · have dl0 : ((L.length : Int) == 0) = false := beq_eq_false_iff_ne.2 (by omega)
      go_upto_region 6 with fail
      all_goals first
        | (go_ret; exact ⟨rfl, HB2.out⟩)
        | skip
      clear d60 dl0 hck hcv
      go_upto_region 7 with (first
        | (go_at_call 9; refine (dnew_any w2).mono ?_; rintro e w3 ⟨b, mo, mw, mt, rfl, hd3, hb3⟩)
        | (refine wpList_buildZ _ rfl 48 rfl _ (build_set _) ?_)
        | (refine wpList_boxAgg _ rfl 48 _ rfl #[.slice none 0 0, .slice none 0 0, .slice none 0 0, .slice none 0 0] (by rfl) ?_))
      have hz3 := hb3.size
      obtain ⟨w4, hw4⟩ : ∃ w4, w4 = w3.alloc (.cells #[.slice none 0 0, .slice none 0 0, .slice none 0 0, .slice none 0 0] 48) := ⟨_, rfl⟩
      obtain ⟨b2, hb2⟩ : ∃ k, k = w3.heap.size := ⟨_, rfl⟩
      rw [← hw4, ← hb2]
      have hb34 : Below w3.heap.size w3 w4 := by rw [hw4]; exact (Below.refl _ w3).alloc (Nat.le_refl _) _
      have hz4 : w4.heap.size = w3.heap.size + 1 := by rw [hw4]; simp
      have HB24 := Lib.hid (hb3.trans (hb34.mono hz3))
      have HP4 := Lib.hid (show PairSt w2 w4 b mo mw mt b2 (fun i => w2.heap.size ≤ i ∧ i < w3.heap.size) (fun i => i = b2) [] [] [] [] [] (.slice none 0 0) (.slice none 0 0) (.slice none 0 0) (.slice none 0 0) by
        have hn : ∀ g, (Value.slice none 0 0).ownBlock = some g → False := fun g hg => by simp [Value.ownBlock] at hg
        refine ⟨hd3.cut.under hb34, ⟨by rw [hw4, hb2]; exact (MapKept.heap_alloc _ _).1, Owns.nil _ _ _ _, Owns.nil _ _ _ _, Owns.nil _ _ _ _, Owns.nil _ _ _ _, by simp, by simp, rfl, fun g hg => (hn g hg).elim, fun g hg => (hn g hg).elim, fun g hg => (hn g hg).elim, fun g hg => (hn g hg).elim, fun i hi hb => by omega, fun i hi => by omega, fun i hi => by omega, fun g hg => (hn g hg).elim, fun g hg => (hn g hg).elim⟩, DInv.nil, rfl, rfl, fun i hi => ⟨hi.1, by omega, by omega⟩, fun i hi => by omega, HB24.out⟩)
      have hz24 : w2.heap.size ≤ w4.heap.size := by omega
      have HL38 := Lib.hid (show ∀ e ∈ L, e.cs.length = 38 from fun e he => OpV.cs_length (HMO.out.okL e he).ok _ _)
      have HOWS := Lib.hid HMO.out.own.srcOf
      clear hd3 hb3 hb34 hz4 hw4 hb2
      go_wp2_with fail
      go_loopw [63] (fun i wr => ∃ (n : Nat) (O W O2 W2 : List E3) (T : List (Nm × Nat)) (BD F : Nat → Prop) (vo vw vn vm : Value), n ≤ zs.length ∧ i = .int .i64 n ∧ O.length + W.length ≤ n ∧ Hid (PairSt w2 wr b mo mw mt b2 BD F O W O2 W2 T vo vw vn vm)) (fun i _ => zs.length - (intOf i).toNat)
      case atStart => exact ⟨0, [], [], [], [], [], _, _, _, _, _, _, by omega, rfl, by simp, HP4⟩
      case round =>
        obtain ⟨n, O, W, O2, W2, T, BD, F, vo, vw, vn, vm, hn1, rfl, hOW, HP⟩ := hrel
        have hzr := HP.out.keep.size
        by_cases hlt : n < zs.length
        · obtain ⟨gz, oz, hpz, hgz, hcz, hIz⟩ := HA.out n hlt
          subst hpz
          have k0 : wr.cell? ⟨gz, oz + n, none⟩ = some (.int .i64 (zs.getD n 0)) := ((HB2.out.trans (HP.out.keep.mono (by omega))).cell (p := ⟨gz, oz + n, none⟩) hgz).trans hcz
          generalize zs.getD n 0 = z at *
          clear hcz hIz
          go_upto_region 11 with fail
          obtain ⟨ix, htx, hix⟩ := pick_lt z L.length (by omega)
          obtain ⟨ex, gx, ox, hx1, _, hx3, hpx, hx4⟩ := op_at HOWS.out.at_ HL38.out hix
          subst hpx
          have hgx := cellsAt_lt hx4 (by rw [HL38.out ex hx3]; omega)
          obtain ⟨xo, hxo⟩ : ∃ y, y = ex.o := ⟨_, rfl⟩
          obtain ⟨xp, hxp⟩ : ∃ y, y = ex.p := ⟨_, rfl⟩
          obtain ⟨xc, hxc⟩ : ∃ y, y = ex.c := ⟨_, rfl⟩
          have hcsx : ex.cs = xo.cs xp xc := by rw [hxo, hxp, hxc]; rfl
          have HCx := Lib.hid (show cellsAt wr gx (ox + ix * 38) (xo.cs xp xc) from by rw [← hcsx]; exact hx4.of_block (HP.out.keep.block _ hgx))
          have HOKx := Lib.hid (show xo.Ok by rw [hxo]; exact (HMO.out.okL ex hx3).ok)
          have HSRx := Lib.hid (show Src wr xp (pcs xo.preds) by rw [hxo, hxp]; exact (HMO.out.okL ex hx3).src.below HP.out.keep (Nat.le_refl _))
          have HATx := Lib.hid (show ∀ i off, xp = some ⟨i, off, none⟩ → xo.preds ≠ [] → i < w2.heap.size from fun i off e hne => HMO.out.blt i ((HMO.out.okL ex hx3).at_ i off (by rw [← hxp]; exact e) (by rw [← hxo]; exact hne)))
          have H38x := Lib.hid (OpV.cs_length HOKx.out xp xc)
          have HON := Lib.hid (OpV.cs_one xo xp xc)
          have HOZ := Lib.hid (show (zeroOp.cs none 0).toArray.size = (xo.cs xp xc).toArray.size by rw [List.size_toArray, List.size_toArray, H38x.out]; rfl)
          clear hcsx hxo hxp hxc hx1 hx3 hx4
          have hul := u64_len L.length (by omega)
          have hul0 : ¬ (L.length : Int) = 0 := by omega
          have hwx := i64_nat ix (by omega)
          have hxl : (ix : Int) < (L.length : Int) := by omega
          go_upto_region 12 with (first
            | (refine wpList_loadAgg _ rfl 38 _ rfl _ Tryd.underlying38 rfl gx (ox + ix * 38) (by rfl) (xo.cs xp xc) (by rw [opInfo, H38x.out]) HCx.out ?_)
            | (refine wpList_allocZ _ rfl 38 rfl _ HZO.out ?_)
            | (refine wpList_storeNew _ wr rfl 38 _ _ rfl (zeroOp.cs none 0).toArray rfl (by rfl) (xo.cs xp xc).toArray (by rfl) (by rw [opInfo, List.size_toArray, H38x.out]) HOZ.out (by simpa using HON.out) ?_))
          clear hul hul0 hwx hxl htx k0
          obtain ⟨w5, hw5⟩ : ∃ w5, w5 = wr.alloc (.cells (xo.cs xp xc).toArray 38) := ⟨_, rfl⟩
          rw [← hw5]
          obtain ⟨kx, hkx⟩ : ∃ k, k = wr.heap.size := ⟨_, rfl⟩
          rw [← hkx]
          have hb5 : Below wr.heap.size wr w5 := by rw [hw5]; exact (Below.refl _ wr).alloc (Nat.le_refl _) _
          have hz5 : kx < w5.heap.size := by rw [hw5, hkx]; simp
          have HR5 := Lib.hid (show w5.heap[kx]? = some (.cells (xo.cs xp xc).toArray 38 (0, 0)) by rw [hw5, hkx]; exact (MapKept.heap_alloc _ _).1)
          have HC5 := Lib.hid (show cellsAt w5 kx 0 (xo.cs xp xc) from fun j u hj => by rw [cell_of_row _ _ _ _ _ _ HR5.out, Nat.zero_add]; simpa using hj)
          have HP5 := Lib.hid (HP.out.under hb5)
          have hkxr : wr.heap.size ≤ kx := by omega
          have hz5r := hb5.size
          have HSR5 := Lib.hid (HSRx.out.below hb5 (Nat.le_refl _))
          have HBDr := Lib.hid (show ∀ i, threeB mo mw mt i → i < wr.heap.size from fun i hi => (HP.out.bd i (HP.out.three i hi)).2.1)
          have HFr := Lib.hid HP.out.ref.flt
          have HT5 := Lib.hid (HT.out.of_below (HB2.out.trans (HP5.out.keep.mono (by omega))) HT.out.2.2)
          clear hw5 hkx hb5
          have HCT := Lib.hid (take_any b mo mw mt BD O W T xo HOKx.out xp xc w5 HT5.out HP5.out.dag HP5.out.inv HSR5.out (by omega) (fun i hi => (HP5.out.bd i hi).2.1))
          obtain ⟨rs, hrs⟩ : ∃ q, q = takeD ⟨O.map E3.ent, W.map E3.ent⟩ xo := ⟨_, rfl⟩
          have HINR := Lib.hid (show DInv rs.1 by rw [hrs]; exact HP.out.inv.take xo)
          have HLN := Lib.hid (show rs.1.ops.length + rs.1.wait.length ≤ O.length + W.length + 1 by rw [hrs]; simpa using takeD_len ⟨O.map E3.ent, W.map E3.ent⟩ xo)
          have HNMS := Lib.hid (show ∀ x ∈ rs.2.1, x ∈ namesOf rs.1.ops by rw [hrs]; exact takeD_names _ xo)
          have HRL := Lib.hid (show rs.2.1.length ≤ 1000000000 by
            have h1 := takeD_outlen ⟨O.map E3.ent, W.map E3.ent⟩ xo
            rw [← hrs] at h1
            simp only [List.length_map] at h1
            omega)
          have HRS := Lib.hid (show takeD ⟨O2.map E3.ent, W2.map E3.ent⟩ xo = rs by rw [HP.out.e1, HP.out.e2, hrs])
          rw [← hrs] at HCT
          clear hrs
          go_upto_region 13 with (first
            | (refine wpList_loadAgg _ rfl 38 _ rfl _ Tryd.underlying38 rfl kx 0 (by rfl) (xo.cs xp xc) (by rw [opInfo, H38x.out]) HC5.out ?_)
            | (go_at_call 10; refine HCT.out.mono ?_; rintro e w6 ⟨v6, BD', O', W', T', rfl, hO', hW', hD', hB', hv6, hk6⟩))
          obtain ⟨p6, c6, hp6⟩ := hv6.form
          subst hp6
          have hz6 := hk6.size
          have hln4 : O'.length + W'.length ≤ n + 1 := by
            have h1 := HLN.out
            have h2 := len_ent' hO'
            have h3 := len_ent' hW'
            omega
          have HR6 := Lib.hid ((hk6.block kx hz5 (fun h => by have := HBDr.out _ h; omega)).trans HR5.out)
          have HC6 := Lib.hid (show cellsAt w6 kx 0 (xo.cs xp xc) from fun j u hj => by rw [cell_of_row _ _ _ _ _ _ HR6.out, Nat.zero_add]; simpa using hj)
          have HSR6 := Lib.hid (HSR5.out.of_blocks hk6.size (fun i off e hlt' hne => hk6.block i hlt' (fun h => by
            have h1 := HATx.out i off e (pcs_ne hne)
            have h2 := (HP.out.bd i (HP.out.three i h)).1
            omega)))
          have HREF6 := Lib.hid (HP5.out.refAt hk6)
          have hk56 : Below w2.heap.size w5 w6 := hk6.toBelow (by omega) (fun i hi h3 => by have := (HP.out.bd i (HP.out.three i h3)).1; omega)
          have HT6 := Lib.hid (HT5.out.of_below hk56 (by have := HT.out.2.2; omega))
          have hcr := rtake_any b2 vo vw vn vm F (fun i => i < w2.heap.size) O2 W2 xo HOKx.out xp xc w6 HT6.out HREF6.out (by rw [HP.out.e1, HP.out.e2]; exact HP.out.inv) HSR6.out HATx.out (by
            have h2 := congrArg List.length HP.out.e1
            have h3 := congrArg List.length HP.out.e2
            simp only [List.length_map] at h2 h3
            omega)
          rw [HRS.out] at hcr
          have HCR := Lib.hid hcr
          have HV6 := Lib.hid hv6
          have HN32 := Lib.hid (show ∀ x ∈ rs.2.1, x.length = 32 from fun x hx => by
            have h1 := HNMS.out x hx
            rw [← hO', ← names_ent] at h1
            obtain ⟨e, he, rfl⟩ := List.mem_map.1 h1
            exact (hD'.okO e he).len)
          have HFIN1 := Lib.hid (show ∀ (wq : World) (F' : Nat → Prop) (O2' W2' : List E3) (vo' vw' vn' vm' : Value), RefSet wq b2 vo' vw' vn' vm' F' (fun i => i < w2.heap.size) O2' W2' → (∀ i, F' i → F i ∨ w6.heap.size ≤ i) → Keeps F w6 wq → O2'.map E3.ent = rs.1.ops → W2'.map E3.ent = rs.1.wait →
              PairSt w2 wq b mo mw mt b2 BD' F' O' W' O2' W2' T' vo' vw' vn' vm' from fun wq F' O2' W2' vo' vw' vn' vm' h1 h2 h3 h4 h5 =>
            HP5.out.take hD' hB' hk6 h1 h2 h3 (by rw [hO', hW']; exact HINR.out) (by rw [h4, hO']) (by rw [h5, hW']))
          have hOl' : O'.length ≤ 1000 := by omega
          have hWl' : W'.length ≤ 1000 := by omega
          have hrsl : rs.2.1.length ≤ 1000000000 := HRL.out
          clear hcr hk6 hk56 hv6 hB' hD' hO' hW'
          go_upto_region 14 with (first
            | (refine wpList_loadAgg _ rfl 38 _ rfl _ Tryd.underlying38 rfl kx 0 (by rfl) (xo.cs xp xc) (by rw [opInfo, H38x.out]) HC6.out ?_)
            | (go_at_call 16; refine HCR.out.mono ?_; rintro e w7 ⟨v7, vo', vw', vn', vm', F', O2', W2', rfl, hO2', hW2', hr7, hF7, hv7, hk7'⟩))
          obtain ⟨p7, c7, hp7⟩ := hv7.form
          subst hp7
          have hz7 := hk7'.size
          have HP7 := Lib.hid (HFIN1.out w7 F' O2' W2' vo' vw' vn' vm' hr7 hF7 hk7' hO2' hW2')
          have HR7 := Lib.hid ((hk7'.block kx (by omega) (fun h => by have := HFr.out _ h; omega)).trans HR6.out)
          have HC7 := Lib.hid (show cellsAt w7 kx 0 (xo.cs xp xc) from fun j u hj => by rw [cell_of_row _ _ _ _ _ _ HR7.out, Nat.zero_add]; simpa using hj)
          have HS67 := Lib.hid ((Owns.srcOf (HV6.out.keep (w' := w7) (fun g hg => hk7'.block g (HV6.out.lt hg).2 (fun h => by have h1 := HFr.out _ h; have h2 := (HV6.out.lt hg).1; omega)))))
          have HS77 := Lib.hid hv7.srcOf
          clear hr7 hF7 hv7 hk7' hO2' hW2' HV6 HFIN1
          go_upto_region 15 with (first
            | (refine wpList_loadAgg _ rfl 38 _ rfl _ Tryd.underlying38 rfl kx 0 (by rfl) (xo.cs xp xc) (by rw [opInfo, H38x.out]) HC7.out ?_)
            | (go_at_call 10; refine (take_nil xo HOKx.out xp xc w7).mono ?_; rintro e w8 ⟨rfl, hb8⟩))
          have hz8 := hb8.size
          have HP8 := Lib.hid (HP7.out.under hb8)
          have HS68 := Lib.hid (HS67.out.below hb8 (Nat.le_refl _))
          have HS78 := Lib.hid (HS77.out.below hb8 (Nat.le_refl _))
          clear hb8
          have hne : (rs.2.2 != rs.2.2) = false := by simp
          have HCS := Lib.hid (fun wz (hb : Below w8.heap.size w8 wz) => dsame_any b mo mw mt b2 BD' F' (fun i => i < w2.heap.size) O' W' O2' W2' T' vo' vw' vn' vm' wz (HP8.out.dag.under hb) HP8.out.inv (HP8.out.ref.under hb) HP8.out.e1 HP8.out.e2 hOl' hWl')
          go_wp2_with (first
            | (go_at_call 20; refine (ids_self rs.2.1 p6 p7 c6 c7 w8 HN32.out HS68.out HS78.out hrsl).mono ?_; rintro e w9 ⟨rfl, hb9⟩)
            | (go_at_call 19; refine (HCS.out w9 hb9).mono ?_; rintro e w10 ⟨rfl, hb10⟩))
          have HP10 := Lib.hid (HP8.out.under (hb9.trans (hb10.mono hb9.size)))
          clear hb9 hb10 hne
          go_roundw
          case rel => exact ⟨n + 1, O', W', O2', W2', T', BD', F', vo', vw', vn', vm', by omega, by go_num, hln4, HP10⟩
          case measure => simp [intOf] <;> omega
        · obtain rfl : n = zs.length := by omega
          obtain ⟨wE, hwE⟩ : ∃ wE, wE = wr := ⟨_, rfl⟩
          subst hwE
          have HPE := HP
          have hIE : wI.heap.size ≤ wE.heap.size := by omega
          have HBIE := Lib.hid (HIB2.out.trans (HP.out.keep.mono (by omega)))
          have HK7E := Lib.hid (show cellsAt wE k7 0 (bcs nm) from HK7.out.of_block (HBIE.out.block _ (by omega)))
          have HK9E := Lib.hid (show cellsAt wE k9 0 d.cs from HK9.out.of_block (HBIE.out.block _ (by omega)))
          obtain ⟨nx, hnx⟩ : ∃ q, q = nextD ⟨O.map E3.ent, W.map E3.ent⟩ au d := ⟨_, rfl⟩
          have hcl := next_any b mo mw mt BD O W T au HAU.out.1 HAU.out.2 d HDD.out wE HP.out.dag (by omega)
          rw [← hnx] at hcl
          have HNOK := Lib.hid (show nx.1.Ok by
            rw [hnx]
            refine nextD_ok HAU.out HDD.out (fun x hx => ?_)
            rw [← names_ent] at hx
            obtain ⟨e, he, rfl⟩ := List.mem_map.1 hx
            exact (HP.out.dag.okO e he).len)
          have HNX2 := Lib.hid (show nextD ⟨O2.map E3.ent, W2.map E3.ent⟩ au d = nx by rw [HP.out.e1, HP.out.e2, hnx])
          clear hnx
          have hO2l : O2.length ≤ 1000 := by
            have h2 := congrArg List.length HP.out.e1
            simp only [List.length_map] at h2
            omega
          have HNM2 := Lib.hid (show O2.map (·.n) = O.map (·.n) by rw [names_ent, names_ent, HP.out.e1])
          obtain ⟨x, en⟩ := nx
          have HOKx := Lib.hid (show x.Ok from HNOK.out)
          have HOKz := Lib.hid zeroOp_ok
          have HN1 := Lib.hid hcl
          clear hcl HNOK
          go_upto_region 19 with (first
            | (refine wpList_loadAgg _ rfl 36 _ rfl _ Tryd.underlying36 rfl k9 0 (by rfl) d.cs (by rw [draftInfo, HCD.out]) HK9E.out ?_)
            | (go_at_call 21; refine HN1.out.mono ?_; rintro e w11 ⟨hb11, px, cx, rfl, hx11⟩)
            | (refine wpList_allocZ _ rfl 38 rfl _ HZO.out ?_)
            | (refine wpList_storeNew _ w11 rfl 38 _ _ rfl (zeroOp.cs none 0).toArray rfl (by rfl) (x.cs px cx).toArray (by rfl) (by rw [opInfo, List.size_toArray, OpV.cs_length HOKx.out]) (show 38 = (x.cs px cx).toArray.size by rw [List.size_toArray, OpV.cs_length HOKx.out]) (by simpa using OpV.cs_one x px cx) ?_))
          have HSXX := Lib.hid hx11.srcOf
          obtain ⟨w12, hw12⟩ : ∃ q, q = w11.alloc (.cells (x.cs px cx).toArray 38) := ⟨_, rfl⟩
          rw [← hw12]
          obtain ⟨q12, hq12⟩ : ∃ k, k = w11.heap.size := ⟨_, rfl⟩
          rw [← hq12]
          have hb1112 : Below w11.heap.size w11 w12 := by rw [hw12]; exact (Below.refl _ _).alloc (Nat.le_refl _) _
          have hz11 := hb11.size
          have hz12 : q12 < w12.heap.size := by rw [hw12, hq12]; simp
          have HBP12 := Lib.hid (show Below wE.heap.size wE w12 from hb11.trans (hb1112.mono hz11))
          have HQ12 := Lib.hid (show cellsAt w12 q12 0 (x.cs px cx) by rw [hw12, hq12]; simpa using cellsAt_new w11 (x.cs px cx).toArray 38)
          have HP12 := Lib.hid (HPE.out.under HBP12.out)
          have hzp12 := HBP12.out.size
          have HK712 := Lib.hid (show cellsAt w12 k7 0 (bcs nm) from HK7E.out.of_block (HBP12.out.block _ (by omega)))
          have HK912 := Lib.hid (show cellsAt w12 k9 0 d.cs from HK9E.out.of_block (HBP12.out.block _ (by omega)))
          have HB1112 := Lib.hid hb1112
          clear hw12 hq12 hb1112 hb11
          have HSX12 := Lib.hid (HSXX.out.below (show Below w11.heap.size w11 w12 from HB1112.out) (Nat.le_refl _))
          have hcl := rnext_any b2 vo vw vn vm F (fun i => i < w2.heap.size) O2 W2 au HAU.out.1 HAU.out.2 d HDD.out w12 HP12.out.ref (by omega)
          rw [HNX2.out] at hcl
          have HN2 := Lib.hid hcl
          clear hcl hx11
          go_upto_region 20 with (first
            | (refine wpList_loadAgg _ rfl 36 _ rfl _ Tryd.underlying36 rfl k9 0 (by rfl) d.cs (by rw [draftInfo, HCD.out]) HK912.out ?_)
            | (go_at_call 22; refine HN2.out.mono ?_; rintro e w13 ⟨hb13, py, cy, rfl, hx13⟩)
            | (refine wpList_allocZ _ rfl 38 rfl _ HZO.out ?_)
            | (refine wpList_storeNew _ w13 rfl 38 _ _ rfl (zeroOp.cs none 0).toArray rfl (by rfl) (x.cs py cy).toArray (by rfl) (by rw [opInfo, List.size_toArray, OpV.cs_length HOKx.out]) (show 38 = (x.cs py cy).toArray.size by rw [List.size_toArray, OpV.cs_length HOKx.out]) (by simpa using OpV.cs_one x py cy) ?_))
          have HSYY := Lib.hid hx13.srcOf
          obtain ⟨w14, hw14⟩ : ∃ q, q = w13.alloc (.cells (x.cs py cy).toArray 38) := ⟨_, rfl⟩
          rw [← hw14]
          obtain ⟨q14, hq14⟩ : ∃ k, k = w13.heap.size := ⟨_, rfl⟩
          rw [← hq14]
          have hb1314 : Below w13.heap.size w13 w14 := by rw [hw14]; exact (Below.refl _ _).alloc (Nat.le_refl _) _
          have hz13 := hb13.size
          have hz14 : q14 < w14.heap.size := by rw [hw14, hq14]; simp
          have HBP14 := Lib.hid (show Below w12.heap.size w12 w14 from hb13.trans (hb1314.mono hz13))
          have HQ14 := Lib.hid (show cellsAt w14 q14 0 (x.cs py cy) by rw [hw14, hq14]; simpa using cellsAt_new w13 (x.cs py cy).toArray 38)
          have HP14 := Lib.hid (HP12.out.under HBP14.out)
          have hzp14 := HBP14.out.size
          have HK714 := Lib.hid (show cellsAt w14 k7 0 (bcs nm) from HK712.out.of_block (HBP14.out.block _ (by omega)))
          have HK914 := Lib.hid (show cellsAt w14 k9 0 d.cs from HK912.out.of_block (HBP14.out.block _ (by omega)))
          have HQ12_14 := Lib.hid (show cellsAt w14 q12 0 (x.cs px cx) from HQ12.out.of_block (HBP14.out.block _ (by omega)))
          have HB1314 := Lib.hid hb1314
          clear hw14 hq14 hb1314 hb13
          have HSX14 := Lib.hid (HSX12.out.below HBP14.out (Nat.le_refl _))
          have HSY14 := Lib.hid (HSYY.out.below (show Below w13.heap.size w13 w14 from HB1314.out) (Nat.le_refl _))
          clear hx13
          have hgg : Calls Tryd.prog 12 #[.pointer (some ⟨b, 0, none⟩), idv nm] w14 fun e w' => ∃ (og : OpV) (pg : Option Addr) (cg : Nat) (gb : Bool), e = .returned (.tuple #[.agg (og.cs pg cg).toArray, .int .i64 (if gb then 0 else 5)]) ∧ og.Ok ∧ gb = decide (nm ∈ O.map (·.n)) ∧ Below w14.heap.size w14 w' := by
            refine (get_any b mo mw mt BD O W T nm HNM.out w14 HP14.out.dag).mono ?_
            rintro e w' ⟨hb, ⟨o', v', ho', rfl, pg, cg, rfl, _⟩ | ⟨ho', rfl⟩⟩
            · exact ⟨o', pg, cg, true, rfl, (there_of HP14.out.dag HP14.out.inv ho').ok, by rw [decide_eq_true]; exact (hasN_mem O nm).1 (hasN_iff.2 (List.mem_map.2 ⟨_, opAt_some ho', rfl⟩)), hb⟩
            · refine ⟨zeroOp, none, 0, false, rfl, zeroOp_ok, ?_, hb⟩
              rw [decide_eq_false]
              intro hm
              have h1 := (hasN_mem O nm).2 hm
              rw [hasN_ent] at h1
              rw [← e3At_ent] at ho'
              cases he : e3At O nm with
              | none => rw [he] at h1; cases h1
              | some e => rw [he] at ho'; cases ho'
          have HGG := Lib.hid hgg
          clear hgg
          go_upto_region 21 with (first
            | (refine wpList_loadAgg _ rfl 33 _ rfl _ Tryd.underlying33 rfl k7 0 (by rfl) (bcs nm) (by rw [info33, bcs_length, HNM.out]) HK714.out ?_)
            | (go_at_call 12; refine HGG.out.mono ?_; rintro e w15 ⟨og, pg, cg, gb, rfl, hog, hgb, hb15⟩; have HOKog := Lib.hid hog; have HGB := Lib.hid hgb; clear hgb)
            | (refine wpList_allocZ _ rfl 38 rfl _ HZO.out ?_)
            | (refine wpList_storeNew _ w15 rfl 38 _ _ rfl (zeroOp.cs none 0).toArray rfl (by rfl) (og.cs pg cg).toArray (by rfl) (by rw [opInfo, List.size_toArray, OpV.cs_length HOKog.out]) (show 38 = (og.cs pg cg).toArray.size by rw [List.size_toArray, OpV.cs_length HOKog.out]) (by simpa using OpV.cs_one og pg cg) ?_))
          obtain ⟨w16, hw16⟩ : ∃ q, q = w15.alloc (.cells (og.cs pg cg).toArray 38) := ⟨_, rfl⟩
          rw [← hw16]
          obtain ⟨q16, hq16⟩ : ∃ k, k = w15.heap.size := ⟨_, rfl⟩
          rw [← hq16]
          have hb1516 : Below w15.heap.size w15 w16 := by rw [hw16]; exact (Below.refl _ _).alloc (Nat.le_refl _) _
          have hz15 := hb15.size
          have hz16 : q16 < w16.heap.size := by rw [hw16, hq16]; simp
          have HBP16 := Lib.hid (show Below w14.heap.size w14 w16 from hb15.trans (hb1516.mono hz15))
          have HQ16 := Lib.hid (show cellsAt w16 q16 0 (og.cs pg cg) by rw [hw16, hq16]; simpa using cellsAt_new w15 (og.cs pg cg).toArray 38)
          have HP16 := Lib.hid (HP14.out.under HBP16.out)
          have hzp16 := HBP16.out.size
          have HK716 := Lib.hid (show cellsAt w16 k7 0 (bcs nm) from HK714.out.of_block (HBP16.out.block _ (by omega)))
          have HK916 := Lib.hid (show cellsAt w16 k9 0 d.cs from HK914.out.of_block (HBP16.out.block _ (by omega)))
          have HQ12_16 := Lib.hid (show cellsAt w16 q12 0 (x.cs px cx) from HQ12_14.out.of_block (HBP16.out.block _ (by omega)))
          have HQ14_16 := Lib.hid (show cellsAt w16 q14 0 (x.cs py cy) from HQ14.out.of_block (HBP16.out.block _ (by omega)))
          clear hw16 hq16 hb1516 hb15
          have HSX16 := Lib.hid (HSX14.out.below HBP16.out (Nat.le_refl _))
          have HSY16 := Lib.hid (HSY14.out.below HBP16.out (Nat.le_refl _))
          go_upto_region 22 with (first
            | (refine wpList_loadAgg _ rfl 33 _ rfl _ Tryd.underlying33 rfl k7 0 (by rfl) (bcs nm) (by rw [info33, bcs_length, HNM.out]) HK716.out ?_)
            | (go_at_call 12; refine (get_nil nm w16).mono ?_; rintro e w17 ⟨rfl, hb17⟩)
            | (refine wpList_allocZ _ rfl 38 rfl _ HZO.out ?_)
            | (refine wpList_storeNew _ w17 rfl 38 _ _ rfl (zeroOp.cs none 0).toArray rfl (by rfl) (zeroOp.cs none 0).toArray (by rfl) (by rw [opInfo, List.size_toArray, OpV.cs_length HOKz.out]) (show 38 = (zeroOp.cs none 0).toArray.size by rw [List.size_toArray, OpV.cs_length HOKz.out]) (by simpa using OpV.cs_one zeroOp none 0) ?_))
          obtain ⟨w18, hw18⟩ : ∃ q, q = w17.alloc (.cells (zeroOp.cs none 0).toArray 38) := ⟨_, rfl⟩
          rw [← hw18]
          obtain ⟨q18, hq18⟩ : ∃ k, k = w17.heap.size := ⟨_, rfl⟩
          rw [← hq18]
          have hb1718 : Below w17.heap.size w17 w18 := by rw [hw18]; exact (Below.refl _ _).alloc (Nat.le_refl _) _
          have hz17 := hb17.size
          have hz18 : q18 < w18.heap.size := by rw [hw18, hq18]; simp
          have HBP18 := Lib.hid (show Below w16.heap.size w16 w18 from hb17.trans (hb1718.mono hz17))
          have HQ18 := Lib.hid (show cellsAt w18 q18 0 (zeroOp.cs none 0) by rw [hw18, hq18]; simpa using cellsAt_new w17 (zeroOp.cs none 0).toArray 38)
          have HP18 := Lib.hid (HP16.out.under HBP18.out)
          have hzp18 := HBP18.out.size
          have HK718 := Lib.hid (show cellsAt w18 k7 0 (bcs nm) from HK716.out.of_block (HBP18.out.block _ (by omega)))
          have HK918 := Lib.hid (show cellsAt w18 k9 0 d.cs from HK916.out.of_block (HBP18.out.block _ (by omega)))
          have HQ12_18 := Lib.hid (show cellsAt w18 q12 0 (x.cs px cx) from HQ12_16.out.of_block (HBP18.out.block _ (by omega)))
          have HQ14_18 := Lib.hid (show cellsAt w18 q14 0 (x.cs py cy) from HQ14_16.out.of_block (HBP18.out.block _ (by omega)))
          clear hw18 hq18 hb1718 hb17
          have HSX18 := Lib.hid (HSX16.out.below HBP18.out (Nat.le_refl _))
          have HSY18 := Lib.hid (HSY16.out.below HBP18.out (Nat.le_refl _))
          go_upto_region 23 with (first
            | (refine wpList_loadAgg _ rfl 36 _ rfl _ Tryd.underlying36 rfl k9 0 (by rfl) d.cs (by rw [draftInfo, HCD.out]) HK918.out ?_)
            | (go_at_call 21; refine (next_nil 0 d w18).mono ?_; rintro e w19 ⟨rfl, hb19⟩)
            | (refine wpList_allocZ _ rfl 38 rfl _ HZO.out ?_)
            | (refine wpList_storeNew _ w19 rfl 38 _ _ rfl (zeroOp.cs none 0).toArray rfl (by rfl) (zeroOp.cs none 0).toArray (by rfl) (by rw [opInfo, List.size_toArray, OpV.cs_length HOKz.out]) (show 38 = (zeroOp.cs none 0).toArray.size by rw [List.size_toArray, OpV.cs_length HOKz.out]) (by simpa using OpV.cs_one zeroOp none 0) ?_))
          obtain ⟨w20, hw20⟩ : ∃ q, q = w19.alloc (.cells (zeroOp.cs none 0).toArray 38) := ⟨_, rfl⟩
          rw [← hw20]
          obtain ⟨q20, hq20⟩ : ∃ k, k = w19.heap.size := ⟨_, rfl⟩
          rw [← hq20]
          have hb1920 : Below w19.heap.size w19 w20 := by rw [hw20]; exact (Below.refl _ _).alloc (Nat.le_refl _) _
          have hz19 := hb19.size
          have hz20 : q20 < w20.heap.size := by rw [hw20, hq20]; simp
          have HBP20 := Lib.hid (show Below w18.heap.size w18 w20 from hb19.trans (hb1920.mono hz19))
          have HQ20 := Lib.hid (show cellsAt w20 q20 0 (zeroOp.cs none 0) by rw [hw20, hq20]; simpa using cellsAt_new w19 (zeroOp.cs none 0).toArray 38)
          have HP20 := Lib.hid (HP18.out.under HBP20.out)
          have hzp20 := HBP20.out.size
          have HK720 := Lib.hid (show cellsAt w20 k7 0 (bcs nm) from HK718.out.of_block (HBP20.out.block _ (by omega)))
          have HK920 := Lib.hid (show cellsAt w20 k9 0 d.cs from HK918.out.of_block (HBP20.out.block _ (by omega)))
          have HQ12_20 := Lib.hid (show cellsAt w20 q12 0 (x.cs px cx) from HQ12_18.out.of_block (HBP20.out.block _ (by omega)))
          have HQ14_20 := Lib.hid (show cellsAt w20 q14 0 (x.cs py cy) from HQ14_18.out.of_block (HBP20.out.block _ (by omega)))
          clear hw20 hq20 hb1920 hb19
          have HSX20 := Lib.hid (HSX18.out.below HBP20.out (Nat.le_refl _))
          have HSY20 := Lib.hid (HSY18.out.below HBP20.out (Nat.le_refl _))
          have HX38 := Lib.hid (OpV.cs_length HOKx.out px cx)
          have HY38 := Lib.hid (OpV.cs_length HOKx.out py cy)
          obtain ⟨AT, hAT⟩ : ∃ q, q = atI (O2.map (·.n)) nm := ⟨_, rfl⟩
          have hca := at_any b2 vo vw vn vm F (fun i => i < w2.heap.size) O2 W2 nm HNM.out
          rw [← hAT] at hca
          have HCA := Lib.hid hca
          have HGE := Lib.hid (show gb = decide (AT ≥ 0) by
            rw [HGB.out, ← HNM2.out, hAT, Bool.eq_iff_iff, decide_eq_true_iff, decide_eq_true_iff]
            have h := @atI_neg (O2.map (·.n)) nm
            constructor
            · intro h1
              have h2 : ¬ atI (O2.map (·.n)) nm < 0 := fun h3 => h.1 h3 h1
              omega
            · intro h1
              rcases Decidable.em (nm ∈ O2.map (·.n)) with h2 | h2
              · exact h2
              · have := h.2 h2; omega)
          clear hca hAT
          have HBF := Lib.hid (show Below w.heap.size w w20 from HB2.out.trans (HP20.out.keep.mono (by omega)))
          cases gb with
          | true =>
            have hg1 : decide (AT ≥ 0) = true := HGE.out.symm
            have hg2 : (0 : Int) ≤ AT := by simpa using hg1
            go_upto_region 23 with fail
            obtain ⟨NV, hNVa, hNVb⟩ : ∃ n, w20.heap.size ≤ n ∧ n ≤ w20.heap.size := ⟨_, Nat.le_refl _, Nat.le_refl _⟩
            refine wp_region_noPanic ?_
            refine wp_region_till 52 (fun w' => Below NV w20 w') (by kernel_rfl) (by kernel_rfl) ?_
            obtain ⟨wV, hwV⟩ : ∃ wV, wV = w20.drew := ⟨_, rfl⟩
            have hSwV : Below NV w20 wV := by rw [hwV]; exact (Below.refl NV w20).drew
            rw [← hwV]
            have HSV := Lib.hid hSwV
            have hzwV : w20.heap.size ≤ wV.heap.size := by rw [hwV]; exact Nat.le_refl _
            clear hwV hSwV
            go_simp
            refine Till.pure 0 rfl rfl (by kernel_rfl) (NoPanic.noFrame _) HSV.out ?_
            go_big_quiet_step (fail)
            refine wpQuiet_nil ?_
            refine Till.pure 1 rfl rfl (by kernel_rfl) (NoPanic.noFrame _) HSV.out ?_
            go_big_quiet_step (fail)
            refine wpQuiet_nil ?_
            refine Till.pure 2 rfl rfl (by kernel_rfl) (NoPanic.noFrame _) HSV.out ?_
            go_big_quiet_step (fail)
            refine wpQuiet_nil ?_
            refine Till.pure 3 rfl rfl (by kernel_rfl) (NoPanic.noFrame _) HSV.out ?_
            go_big_quiet_step (fail)
            refine wpQuiet_nil ?_
            refine Till.load 4 38 _ ⟨q12, 0, none⟩ (.agg (x.cs px cx).toArray) rfl rfl rfl rfl (by kernel_rfl) (NoPanic.noFrame _) HSV.out (fun w' hw' => run_loadAgg Tryd.underlying38 rfl (by rw [opInfo, HX38.out]) (HQ12_20.out.of_block (hw'.block _ (by omega)))) ?_
            go_simp
            refine Till.load 5 38 _ ⟨q14, 0, none⟩ (.agg (x.cs py cy).toArray) rfl rfl rfl rfl (by kernel_rfl) (NoPanic.noFrame _) HSV.out (fun w' hw' => run_loadAgg Tryd.underlying38 rfl (by rw [opInfo, HY38.out]) (HQ14_20.out.of_block (hw'.block _ (by omega)))) ?_
            go_simp
            refine Till.act 6 rfl rfl (by kernel_rfl) rfl ?_
            intro K hK
            go_wp2_with (go_at_call 17; refine (same_self x HOKx.out px py cx cy wV (HSX20.out.below HSV.out hNVa) (HSY20.out.below HSV.out hNVa)).mono ?_; rintro e wA ⟨rfl, hbA⟩)
            have hzA := hbA.size
            have hSA := HSV.out.trans (hbA.mono (by omega))
            refine hK _ _ hSA ?_
            clear hK K
            go_simp
            have HSA := Lib.hid hSA
            clear hSA hbA
            refine Till.pure 7 rfl rfl (by kernel_rfl) (NoPanic.noFrame _) HSA.out ?_
            go_big_quiet_step (fail)
            refine wpQuiet_nil ?_
            refine Till.pure 8 rfl rfl (by kernel_rfl) (NoPanic.noFrame _) HSA.out ?_
            go_big_quiet_step (fail)
            refine wpQuiet_nil ?_
            refine Till.pure 9 rfl rfl (by kernel_rfl) (NoPanic.noFrame _) HSA.out ?_
            go_big_quiet_step (fail)
            refine wpQuiet_nil ?_
            refine Till.pure 10 rfl rfl (by kernel_rfl) (NoPanic.noFrame _) HSA.out ?_
            go_big_quiet_step (fail)
            refine wpQuiet_nil ?_
            refine Till.pure 11 rfl rfl (by kernel_rfl) (NoPanic.noFrame _) HSA.out ?_
            go_big_quiet_step (fail)
            refine wpQuiet_nil ?_
            refine Till.load 12 33 _ ⟨k7, 0, none⟩ (idv nm) rfl rfl rfl rfl (by kernel_rfl) (NoPanic.noFrame _) HSA.out (fun w' hw' => run_loadAgg Tryd.underlying33 rfl (by rw [info33, bcs_length, HNM.out]) (HK720.out.of_block (hw'.block _ (by omega)))) ?_
            go_simp
            refine Till.act 13 rfl rfl (by kernel_rfl) rfl ?_
            intro K hK
            go_wp2_with (go_at_call 23; refine (HCA.out wA (HP20.out.ref.below HSA.out hNVa) (by omega)).mono ?_; rintro e wB ⟨rfl, hbB⟩)
            have hzB := hbB.size
            have hSB := HSA.out.trans (hbB.mono (by omega))
            refine hK _ _ hSB ?_
            clear hK K
            go_simp
            have HSB := Lib.hid hSB
            clear hSB hbB
            refine Till.pure 14 rfl rfl (by kernel_rfl) (NoPanic.noFrame _) HSB.out ?_
            go_big_quiet_step (fail)
            refine wpQuiet_nil ?_
            refine Till.pure 15 rfl rfl (by kernel_rfl) (NoPanic.noFrame _) HSB.out ?_
            go_big_quiet_step (fail)
            refine wpQuiet_nil ?_
            refine Till.pure 16 rfl rfl (by kernel_rfl) (NoPanic.noFrame _) HSB.out ?_
            go_big_quiet_step (fail)
            refine wpQuiet_nil ?_
            refine Till.pure 17 rfl rfl (by kernel_rfl) (NoPanic.noFrame _) HSB.out ?_
            go_big_quiet_step (fail)
            refine wpQuiet_nil ?_
            refine Till.pure 18 rfl rfl (by kernel_rfl) (NoPanic.noFrame _) HSB.out ?_
            go_big_quiet_step (fail)
            refine wpQuiet_nil ?_
            refine Till.pure 19 rfl rfl (by kernel_rfl) (NoPanic.noFrame _) HSB.out ?_
            go_big_quiet_step (fail)
            refine wpQuiet_nil ?_
            refine Till.pure 20 rfl rfl (by kernel_rfl) (NoPanic.noFrame _) HSB.out ?_
            go_big_quiet_step (fail)
            refine wpQuiet_nil ?_
            refine Till.pass 21 rfl (by rfl) (by kernel_rfl) (NoPanic.noFrame _) HSB.out ?_
            go_simp
            refine Till.pass 22 rfl (by rfl) (by kernel_rfl) (NoPanic.noFrame _) HSB.out ?_
            go_simp
            refine Till.pure 23 rfl rfl (by kernel_rfl) (NoPanic.noFrame _) HSB.out ?_
            go_big_quiet_step (fail)
            refine wpQuiet_nil ?_
            refine Till.pure 24 rfl rfl (by kernel_rfl) (NoPanic.noFrame _) HSB.out ?_
            go_big_quiet_step (fail)
            refine wpQuiet_nil ?_
            refine Till.pure 25 rfl rfl (by kernel_rfl) (NoPanic.noFrame _) HSB.out ?_
            go_big_quiet_step (fail)
            refine wpQuiet_nil ?_
            refine Till.pure 26 rfl rfl (by kernel_rfl) (NoPanic.noFrame _) HSB.out ?_
            go_big_quiet_step (fail)
            refine wpQuiet_nil ?_
            refine Till.pure 27 rfl rfl (by kernel_rfl) (NoPanic.noFrame _) HSB.out ?_
            go_big_quiet_step (fail)
            refine wpQuiet_nil ?_
            refine Till.pure 28 rfl rfl (by kernel_rfl) (NoPanic.noFrame _) HSB.out ?_
            go_big_quiet_step (fail)
            refine wpQuiet_nil ?_
            refine Till.pure 29 rfl rfl (by kernel_rfl) (NoPanic.noFrame _) HSB.out ?_
            go_big_quiet_step (fail)
            refine wpQuiet_nil ?_
            refine Till.pure 30 rfl rfl (by kernel_rfl) (NoPanic.noFrame _) HSB.out ?_
            go_big_quiet_step (fail)
            refine wpQuiet_nil ?_
            refine Till.pure 31 rfl rfl (by kernel_rfl) (NoPanic.noFrame _) HSB.out ?_
            go_big_quiet_step (fail)
            refine wpQuiet_nil ?_
            refine Till.pure 32 rfl rfl (by kernel_rfl) (NoPanic.noFrame _) HSB.out ?_
            go_big_quiet_step (fail)
            refine wpQuiet_nil ?_
            refine Till.pure 33 rfl rfl (by kernel_rfl) (NoPanic.noFrame _) HSB.out ?_
            go_big_quiet_step (fail)
            refine wpQuiet_nil ?_
            refine Till.pure 34 rfl rfl (by kernel_rfl) (NoPanic.noFrame _) HSB.out ?_
            go_big_quiet_step (fail)
            refine wpQuiet_nil ?_
            refine Till.pure 37 rfl rfl (by kernel_rfl) (NoPanic.noFrame _) HSB.out ?_
            go_big_quiet_step (fail)
            refine wpQuiet_nil ?_
            refine Till.pure 41 rfl rfl (by kernel_rfl) (NoPanic.noFrame _) HSB.out ?_
            go_big_quiet_step (fail)
            refine wpQuiet_nil ?_
            refine Till.pure 45 rfl rfl (by kernel_rfl) (NoPanic.noFrame _) HSB.out ?_
            go_big_quiet_step (fail)
            refine wpQuiet_nil ?_
            refine Till.load 46 33 _ ⟨k7, 0, none⟩ (idv nm) rfl rfl rfl rfl (by kernel_rfl) (NoPanic.noFrame _) HSB.out (fun w' hw' => run_loadAgg Tryd.underlying33 rfl (by rw [info33, bcs_length, HNM.out]) (HK720.out.of_block (hw'.block _ (by omega)))) ?_
            go_simp
            refine Till.act 35 rfl rfl (by kernel_rfl) rfl ?_
            intro K hK
            go_wp2_with (go_at_call 11; refine (dnames_nil wB).mono ?_; rintro e wC ⟨rfl, hwC⟩; subst hwC)
            refine hK _ _ HSB.out ?_
            clear hK K
            go_simp
            refine Till.val 36 (.int .i64 (0 : Nat)) rfl rfl (by kernel_rfl) (NoPanic.noFrame _) HSB.out (fun w' => exec_len _ _ _ rfl Tryd.underlying29 none 0 0 (by rfl) w') ?_
            go_simp
            refine Till.act 38 rfl rfl (by kernel_rfl) rfl ?_
            intro K hK
            go_wp2_with (go_at_call 18; refine (heads_nil_any _).mono ?_; rintro e wD ⟨rfl, hbD⟩)
            have hzD := hbD.size
            have hSD := HSB.out.trans (hbD.mono (by omega))
            refine hK _ _ hSD ?_
            clear hK K
            go_simp
            have HSD := Lib.hid hSD
            clear hSD hbD
            refine Till.val 39 (.int .i64 (0 : Nat)) rfl rfl (by kernel_rfl) (NoPanic.noFrame _) HSD.out (fun w' => exec_len _ _ _ rfl Tryd.underlying29 none 0 0 (by rfl) w') ?_
            go_simp
            refine Till.pure 40 rfl rfl (by kernel_rfl) (NoPanic.noFrame _) HSD.out ?_
            go_big_quiet_step (fail)
            refine wpQuiet_nil ?_
            refine Till.act 42 rfl rfl (by kernel_rfl) rfl ?_
            intro K hK
            go_wp2_with (go_at_call 15; refine (dwaits_nil _).mono ?_; rintro e wF ⟨rfl, hwF⟩; subst hwF)
            refine hK _ _ HSD.out ?_
            clear hK K
            go_simp
            refine Till.val 43 (.int .i64 (0 : Nat)) rfl rfl (by kernel_rfl) (NoPanic.noFrame _) HSD.out (fun w' => exec_len _ _ _ rfl Tryd.underlying29 none 0 0 (by rfl) w') ?_
            go_simp
            refine Till.pure 44 rfl rfl (by kernel_rfl) (NoPanic.noFrame _) HSD.out ?_
            go_big_quiet_step (fail)
            refine wpQuiet_nil ?_
            refine Till.act 47 rfl rfl (by kernel_rfl) rfl ?_
            intro K hK
            go_wp2_with (go_at_call 24; refine (past_nil nm _).mono ?_; rintro e wG ⟨rfl, hbG⟩)
            have hzG := hbG.size
            have hSG := HSD.out.trans (hbG.mono (by omega))
            refine hK _ _ hSG ?_
            clear hK K
            go_simp
            have HSG := Lib.hid hSG
            clear hSG hbG
            refine Till.val 48 (.int .i64 (0 : Nat)) rfl rfl (by kernel_rfl) (NoPanic.noFrame _) HSG.out (fun w' => exec_len _ _ _ rfl Tryd.underlying29 none 0 0 (by rfl) w') ?_
            go_simp
            refine Till.pure 49 rfl rfl (by kernel_rfl) (NoPanic.noFrame _) HSG.out ?_
            go_big_quiet_step (fail)
            refine wpQuiet_nil ?_
            refine Till.pure 50 rfl rfl (by kernel_rfl) (NoPanic.noFrame _) HSG.out ?_
            go_big_quiet_step (fail)
            refine wpQuiet_nil ?_
            refine Till.pure 51 rfl rfl (by kernel_rfl) (NoPanic.noFrame _) HSG.out ?_
            go_big_quiet_step (fail)
            refine wpQuiet_nil ?_
            refine Till.tail _ rfl rfl (by kernel_rfl) (by kernel_rfl) ?_
            have HFIN := Lib.hid (HBF.out.trans ((HSG.out.mono hNVa).mono HBF.out.size))
            go_wp2
            refine NoPanic.normal ?_
            go_wp2
            go_ret
            exact ⟨rfl, HFIN.out⟩
          | false =>
            have hg1 : decide (AT ≥ 0) = false := HGE.out.symm
            have hg2 : ¬ (0 : Int) ≤ AT := by simpa using hg1
            go_upto_region 23 with fail
            obtain ⟨NV, hNVa, hNVb⟩ : ∃ n, w20.heap.size ≤ n ∧ n ≤ w20.heap.size := ⟨_, Nat.le_refl _, Nat.le_refl _⟩
            refine wp_region_noPanic ?_
            refine wp_region_till 52 (fun w' => Below NV w20 w') (by kernel_rfl) (by kernel_rfl) ?_
            obtain ⟨wV, hwV⟩ : ∃ wV, wV = w20.drew := ⟨_, rfl⟩
            have hSwV : Below NV w20 wV := by rw [hwV]; exact (Below.refl NV w20).drew
            rw [← hwV]
            have HSV := Lib.hid hSwV
            have hzwV : w20.heap.size ≤ wV.heap.size := by rw [hwV]; exact Nat.le_refl _
            clear hwV hSwV
            go_simp
            refine Till.pure 0 rfl rfl (by kernel_rfl) (NoPanic.noFrame _) HSV.out ?_
            go_big_quiet_step (fail)
            refine wpQuiet_nil ?_
            refine Till.pure 1 rfl rfl (by kernel_rfl) (NoPanic.noFrame _) HSV.out ?_
            go_big_quiet_step (fail)
            refine wpQuiet_nil ?_
            refine Till.pure 2 rfl rfl (by kernel_rfl) (NoPanic.noFrame _) HSV.out ?_
            go_big_quiet_step (fail)
            refine wpQuiet_nil ?_
            refine Till.pure 3 rfl rfl (by kernel_rfl) (NoPanic.noFrame _) HSV.out ?_
            go_big_quiet_step (fail)
            refine wpQuiet_nil ?_
            refine Till.load 4 38 _ ⟨q12, 0, none⟩ (.agg (x.cs px cx).toArray) rfl rfl rfl rfl (by kernel_rfl) (NoPanic.noFrame _) HSV.out (fun w' hw' => run_loadAgg Tryd.underlying38 rfl (by rw [opInfo, HX38.out]) (HQ12_20.out.of_block (hw'.block _ (by omega)))) ?_
            go_simp
            refine Till.load 5 38 _ ⟨q14, 0, none⟩ (.agg (x.cs py cy).toArray) rfl rfl rfl rfl (by kernel_rfl) (NoPanic.noFrame _) HSV.out (fun w' hw' => run_loadAgg Tryd.underlying38 rfl (by rw [opInfo, HY38.out]) (HQ14_20.out.of_block (hw'.block _ (by omega)))) ?_
            go_simp
            refine Till.act 6 rfl rfl (by kernel_rfl) rfl ?_
            intro K hK
            go_wp2_with (go_at_call 17; refine (same_self x HOKx.out px py cx cy wV (HSX20.out.below HSV.out hNVa) (HSY20.out.below HSV.out hNVa)).mono ?_; rintro e wA ⟨rfl, hbA⟩)
            have hzA := hbA.size
            have hSA := HSV.out.trans (hbA.mono (by omega))
            refine hK _ _ hSA ?_
            clear hK K
            go_simp
            have HSA := Lib.hid hSA
            clear hSA hbA
            refine Till.pure 7 rfl rfl (by kernel_rfl) (NoPanic.noFrame _) HSA.out ?_
            go_big_quiet_step (fail)
            refine wpQuiet_nil ?_
            refine Till.pure 8 rfl rfl (by kernel_rfl) (NoPanic.noFrame _) HSA.out ?_
            go_big_quiet_step (fail)
            refine wpQuiet_nil ?_
            refine Till.pure 9 rfl rfl (by kernel_rfl) (NoPanic.noFrame _) HSA.out ?_
            go_big_quiet_step (fail)
            refine wpQuiet_nil ?_
            refine Till.pure 10 rfl rfl (by kernel_rfl) (NoPanic.noFrame _) HSA.out ?_
            go_big_quiet_step (fail)
            refine wpQuiet_nil ?_
            refine Till.pure 11 rfl rfl (by kernel_rfl) (NoPanic.noFrame _) HSA.out ?_
            go_big_quiet_step (fail)
            refine wpQuiet_nil ?_
            refine Till.load 12 33 _ ⟨k7, 0, none⟩ (idv nm) rfl rfl rfl rfl (by kernel_rfl) (NoPanic.noFrame _) HSA.out (fun w' hw' => run_loadAgg Tryd.underlying33 rfl (by rw [info33, bcs_length, HNM.out]) (HK720.out.of_block (hw'.block _ (by omega)))) ?_
            go_simp
            refine Till.act 13 rfl rfl (by kernel_rfl) rfl ?_
            intro K hK
            go_wp2_with (go_at_call 23; refine (HCA.out wA (HP20.out.ref.below HSA.out hNVa) (by omega)).mono ?_; rintro e wB ⟨rfl, hbB⟩)
            have hzB := hbB.size
            have hSB := HSA.out.trans (hbB.mono (by omega))
            refine hK _ _ hSB ?_
            clear hK K
            go_simp
            have HSB := Lib.hid hSB
            clear hSB hbB
            refine Till.pure 14 rfl rfl (by kernel_rfl) (NoPanic.noFrame _) HSB.out ?_
            go_big_quiet_step (fail)
            refine wpQuiet_nil ?_
            refine Till.pure 15 rfl rfl (by kernel_rfl) (NoPanic.noFrame _) HSB.out ?_
            go_big_quiet_step (fail)
            refine wpQuiet_nil ?_
            refine Till.pure 16 rfl rfl (by kernel_rfl) (NoPanic.noFrame _) HSB.out ?_
            go_big_quiet_step (fail)
            refine wpQuiet_nil ?_
            refine Till.pure 17 rfl rfl (by kernel_rfl) (NoPanic.noFrame _) HSB.out ?_
            go_big_quiet_step (fail)
            refine wpQuiet_nil ?_
            refine Till.pure 18 rfl rfl (by kernel_rfl) (NoPanic.noFrame _) HSB.out ?_
            go_big_quiet_step (fail)
            refine wpQuiet_nil ?_
            refine Till.pure 19 rfl rfl (by kernel_rfl) (NoPanic.noFrame _) HSB.out ?_
            go_big_quiet_step (fail)
            refine wpQuiet_nil ?_
            refine Till.pure 20 rfl rfl (by kernel_rfl) (NoPanic.noFrame _) HSB.out ?_
            go_big_quiet_step (fail)
            refine wpQuiet_nil ?_
            refine Till.pure 21 rfl rfl (by kernel_rfl) (NoPanic.noFrame _) HSB.out ?_
            go_big_quiet_step (fail)
            refine wpQuiet_nil ?_
            refine Till.pure 22 rfl rfl (by kernel_rfl) (NoPanic.noFrame _) HSB.out ?_
            go_big_quiet_step (fail)
            refine wpQuiet_nil ?_
            refine Till.pure 23 rfl rfl (by kernel_rfl) (NoPanic.noFrame _) HSB.out ?_
            go_big_quiet_step (fail)
            refine wpQuiet_nil ?_
            refine Till.pure 24 rfl rfl (by kernel_rfl) (NoPanic.noFrame _) HSB.out ?_
            go_big_quiet_step (fail)
            refine wpQuiet_nil ?_
            refine Till.pure 25 rfl rfl (by kernel_rfl) (NoPanic.noFrame _) HSB.out ?_
            go_big_quiet_step (fail)
            refine wpQuiet_nil ?_
            refine Till.pure 26 rfl rfl (by kernel_rfl) (NoPanic.noFrame _) HSB.out ?_
            go_big_quiet_step (fail)
            refine wpQuiet_nil ?_
            refine Till.pure 27 rfl rfl (by kernel_rfl) (NoPanic.noFrame _) HSB.out ?_
            go_big_quiet_step (fail)
            refine wpQuiet_nil ?_
            refine Till.pure 28 rfl rfl (by kernel_rfl) (NoPanic.noFrame _) HSB.out ?_
            go_big_quiet_step (fail)
            refine wpQuiet_nil ?_
            refine Till.pure 29 rfl rfl (by kernel_rfl) (NoPanic.noFrame _) HSB.out ?_
            go_big_quiet_step (fail)
            refine wpQuiet_nil ?_
            refine Till.pure 30 rfl rfl (by kernel_rfl) (NoPanic.noFrame _) HSB.out ?_
            go_big_quiet_step (fail)
            refine wpQuiet_nil ?_
            refine Till.pure 31 rfl rfl (by kernel_rfl) (NoPanic.noFrame _) HSB.out ?_
            go_big_quiet_step (fail)
            refine wpQuiet_nil ?_
            refine Till.pure 32 rfl rfl (by kernel_rfl) (NoPanic.noFrame _) HSB.out ?_
            go_big_quiet_step (fail)
            refine wpQuiet_nil ?_
            refine Till.pure 33 rfl rfl (by kernel_rfl) (NoPanic.noFrame _) HSB.out ?_
            go_big_quiet_step (fail)
            refine wpQuiet_nil ?_
            refine Till.pure 34 rfl rfl (by kernel_rfl) (NoPanic.noFrame _) HSB.out ?_
            go_big_quiet_step (fail)
            refine wpQuiet_nil ?_
            refine Till.pure 37 rfl rfl (by kernel_rfl) (NoPanic.noFrame _) HSB.out ?_
            go_big_quiet_step (fail)
            refine wpQuiet_nil ?_
            refine Till.pure 41 rfl rfl (by kernel_rfl) (NoPanic.noFrame _) HSB.out ?_
            go_big_quiet_step (fail)
            refine wpQuiet_nil ?_
            refine Till.pure 45 rfl rfl (by kernel_rfl) (NoPanic.noFrame _) HSB.out ?_
            go_big_quiet_step (fail)
            refine wpQuiet_nil ?_
            refine Till.load 46 33 _ ⟨k7, 0, none⟩ (idv nm) rfl rfl rfl rfl (by kernel_rfl) (NoPanic.noFrame _) HSB.out (fun w' hw' => run_loadAgg Tryd.underlying33 rfl (by rw [info33, bcs_length, HNM.out]) (HK720.out.of_block (hw'.block _ (by omega)))) ?_
            go_simp
            refine Till.act 35 rfl rfl (by kernel_rfl) rfl ?_
            intro K hK
            go_wp2_with (go_at_call 11; refine (dnames_nil wB).mono ?_; rintro e wC ⟨rfl, hwC⟩; subst hwC)
            refine hK _ _ HSB.out ?_
            clear hK K
            go_simp
            refine Till.val 36 (.int .i64 (0 : Nat)) rfl rfl (by kernel_rfl) (NoPanic.noFrame _) HSB.out (fun w' => exec_len _ _ _ rfl Tryd.underlying29 none 0 0 (by rfl) w') ?_
            go_simp
            refine Till.act 38 rfl rfl (by kernel_rfl) rfl ?_
            intro K hK
            go_wp2_with (go_at_call 18; refine (heads_nil_any _).mono ?_; rintro e wD ⟨rfl, hbD⟩)
            have hzD := hbD.size
            have hSD := HSB.out.trans (hbD.mono (by omega))
            refine hK _ _ hSD ?_
            clear hK K
            go_simp
            have HSD := Lib.hid hSD
            clear hSD hbD
            refine Till.val 39 (.int .i64 (0 : Nat)) rfl rfl (by kernel_rfl) (NoPanic.noFrame _) HSD.out (fun w' => exec_len _ _ _ rfl Tryd.underlying29 none 0 0 (by rfl) w') ?_
            go_simp
            refine Till.pure 40 rfl rfl (by kernel_rfl) (NoPanic.noFrame _) HSD.out ?_
            go_big_quiet_step (fail)
            refine wpQuiet_nil ?_
            refine Till.act 42 rfl rfl (by kernel_rfl) rfl ?_
            intro K hK
            go_wp2_with (go_at_call 15; refine (dwaits_nil _).mono ?_; rintro e wF ⟨rfl, hwF⟩; subst hwF)
            refine hK _ _ HSD.out ?_
            clear hK K
            go_simp
            refine Till.val 43 (.int .i64 (0 : Nat)) rfl rfl (by kernel_rfl) (NoPanic.noFrame _) HSD.out (fun w' => exec_len _ _ _ rfl Tryd.underlying29 none 0 0 (by rfl) w') ?_
            go_simp
            refine Till.pure 44 rfl rfl (by kernel_rfl) (NoPanic.noFrame _) HSD.out ?_
            go_big_quiet_step (fail)
            refine wpQuiet_nil ?_
            refine Till.act 47 rfl rfl (by kernel_rfl) rfl ?_
            intro K hK
            go_wp2_with (go_at_call 24; refine (past_nil nm _).mono ?_; rintro e wG ⟨rfl, hbG⟩)
            have hzG := hbG.size
            have hSG := HSD.out.trans (hbG.mono (by omega))
            refine hK _ _ hSG ?_
            clear hK K
            go_simp
            have HSG := Lib.hid hSG
            clear hSG hbG
            refine Till.val 48 (.int .i64 (0 : Nat)) rfl rfl (by kernel_rfl) (NoPanic.noFrame _) HSG.out (fun w' => exec_len _ _ _ rfl Tryd.underlying29 none 0 0 (by rfl) w') ?_
            go_simp
            refine Till.pure 49 rfl rfl (by kernel_rfl) (NoPanic.noFrame _) HSG.out ?_
            go_big_quiet_step (fail)
            refine wpQuiet_nil ?_
            refine Till.pure 50 rfl rfl (by kernel_rfl) (NoPanic.noFrame _) HSG.out ?_
            go_big_quiet_step (fail)
            refine wpQuiet_nil ?_
            refine Till.pure 51 rfl rfl (by kernel_rfl) (NoPanic.noFrame _) HSG.out ?_
            go_big_quiet_step (fail)
            refine wpQuiet_nil ?_
            refine Till.tail _ rfl rfl (by kernel_rfl) (by kernel_rfl) ?_
            have HFIN := Lib.hid (HBF.out.trans ((HSG.out.mono hNVa).mono HBF.out.size))
            go_wp2
            refine NoPanic.normal ?_
            go_wp2
            go_ret
            exact ⟨rfl, HFIN.out⟩
end Go.Proofs.YtfoifdhcelcgiaaDoor
