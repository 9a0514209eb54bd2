/-
  both: two sets of what is made, the program's and the document's.
-/
import Derived.Test.YtfoifdhcelcgiaaGreatDoorKeepP
namespace Go.Proofs.YtfoifdhcelcgiaaGreatDoor
open Go Go.RowKit

/-- what both answers -/
structure BothOut (w w' : World) (b b2 : Nat) (O W O2 W2 : List E3) : Prop where
  len : O.length + W.length ≤ 30
  dag : ∃ mo mw mt BD T, DagSet w' b mo mw mt BD O W T
  ref : ∃ vo vw vn vm F BR, RefSet w' b2 vo vw vn vm F BR O2 W2
  inv : DInv ⟨O.map E3.ent, W.map E3.ent⟩
  e1 : O2.map E3.ent = O.map E3.ent
  e2 : W2.map E3.ent = W.map E3.ent
  below : Below w.heap.size w w'


set_option maxRecDepth 100000 in
set_option maxHeartbeats 40000000 in
theorem both_any (M : List MkV) (hM : ∀ m ∈ M, m.Ok) (p : Option Addr) (cap : Nat) (w : World) (hT : Tabs w) (hs : Src w p (mcs M)) (hps : ∀ m ∈ M, Src w m.p (pcs m.o.preds)) (hMl : M.length ≤ 1000000000) :
    Calls Tryz.prog 9 #[.slice p M.length cap] w fun e w' => ∃ b b2 O W O2 W2, e = .returned (.tuple #[.pointer (some ⟨b, 0, none⟩), .pointer (some ⟨b2, 0, none⟩)]) ∧ BothOut w w' b b2 O W O2 W2 := by
  obtain ⟨hzo, _⟩ := info_two opZero
  have HZO := Lib.hid hzo
  have HM := Lib.hid hM
  have HS := Lib.hid hs
  have HPS := Lib.hid hps
  have HT := Lib.hid hT
  clear hzo hM hs hps hT
  go_enter Tryz.func9, Tryz.ntmps9
  go_upto_region 2 with (first
    | (go_at_call 32; refine (dnew_any w).mono ?_; rintro e w2 ⟨b, mo, mw, mt, rfl, hd2, hb2⟩)
    | (refine wpList_buildZ _ rfl 37 rfl _ (build_set _) ?_)
    | (refine wpList_boxAgg _ rfl 37 _ rfl #[.slice none 0 0, .slice none 0 0, .slice none 0 0, .slice none 0 0] (by rfl) ?_))
  have hz2w := hb2.size
  obtain ⟨w3, hw3⟩ : ∃ w3, w3 = w2.alloc (.cells #[.slice none 0 0, .slice none 0 0, .slice none 0 0, .slice none 0 0] 37) := ⟨_, rfl⟩
  obtain ⟨b2, hb2x⟩ : ∃ k, k = w2.heap.size := ⟨_, rfl⟩
  rw [← hw3, ← hb2x]
  have hb23 : Below w2.heap.size w2 w3 := by rw [hw3]; exact (Below.refl _ w2).alloc (Nat.le_refl _) _
  have hz3 : w3.heap.size = w2.heap.size + 1 := by rw [hw3]; simp
  have HBOX3 := Lib.hid (show w3.heap[b2]? = some (.cells #[.slice none 0 0, .slice none 0 0, .slice none 0 0, .slice none 0 0] 37 (0, 0)) by rw [hw3, hb2x]; exact (MapKept.heap_alloc _ _).1)
  have HD3 := Lib.hid (hd2.cut.under hb23)
  have HB3 := Lib.hid (hb2.trans (hb23.mono hz2w))
  have hz3w : w.heap.size ≤ w3.heap.size := by omega
  have hb2a : w.heap.size ≤ b2 := by omega
  have hb2b : b2 < w3.heap.size := by omega
  have hb2c : w3.heap.size ≤ b2 + 1 := by omega
  have hb2d : b2 ≤ w2.heap.size := by omega
  have hb2e : w2.heap.size ≤ b2 := by omega
  have hm3 : mo < w2.heap.size ∧ mw < w2.heap.size ∧ mt < w2.heap.size ∧ w.heap.size ≤ mo ∧ w.heap.size ≤ mw ∧ w.heap.size ≤ mt := ⟨hd2.ops.lt, hd2.wait.lt, hd2.out.lt, hd2.inB.2.1, hd2.inB.2.2.1, hd2.inB.2.2.2⟩
  have HCM := Lib.hid (made_any M HM.out p cap w3 (HT.out.of_below HB3.out HT.out.2.2) (HS.out.below HB3.out (Nat.le_refl _)) (fun m hm => (HPS.out m hm).below HB3.out (Nat.le_refl _)) hMl)
  clear hw3 hb2x hb23 hd2 hb2 hz3
  go_wp2_with (go_at_call 35; refine HCM.out.mono ?_; rintro e w4 ⟨v, L, BL, rfl, hmo⟩; obtain ⟨pv, cv, rfl⟩ := hmo.own.form)
  have HMO := Lib.hid hmo
  have hz4 := hmo.below.size
  have hL30 := hmo.len
  have HBOX4 := Lib.hid ((hmo.below.block b2 hb2b).trans HBOX3.out)
  have HD4 := Lib.hid (HD3.out.under hmo.below)
  have HB4 := Lib.hid (HB3.out.trans (hmo.below.mono HB3.out.size))
  have HP4 := Lib.hid (show KeepSt w4 w4 b mo mw mt b2 w.heap.size b2 BL (fun i => w.heap.size ≤ i ∧ i < w2.heap.size) (fun i => i = b2) [] [] [] [] [] (.slice none 0 0) (.slice none 0 0) (.slice none 0 0) (.slice none 0 0) by
    have hn : ∀ g, (Value.slice none 0 0).ownBlock = some g → False := fun g hg => by simp [Value.ownBlock] at hg
    exact ⟨HD4.out, ⟨HBOX4.out, Owns.nil _ _ _ _, Owns.nil _ _ _ _, Owns.nil _ _ _ _, Owns.nil _ _ _ _, by simp, by simp, rfl, fun g hg => (hn g hg).elim, fun g hg => (hn g hg).elim, fun g hg => (hn g hg).elim, fun g hg => (hn g hg).elim, fun i hi hb => hb.2 (.inl hi), fun i hi => by omega, fun i hi => hmo.blt i hi.1, fun g hg => (hn g hg).elim, fun g hg => (hn g hg).elim⟩, DInv.nil, rfl, rfl, fun i hi => ⟨.inl ⟨hi.1, by omega⟩, by omega, by omega⟩, fun i hi => .inl hi, hmo.blt, Keeps.refl _ _⟩)
  have HAW := Lib.hid (show ∀ e ∈ L, e.Ok w4 (fun i => BL i ∧ ¬ fourB b2 mo mw mt i) from fun e he => (hmo.okL e he).away (fun i hi off x hc => by
    have hmap : ∀ m, (∃ es ck, w4.heap[m]? = some (.map es ck)) → w4.cell? ⟨m, off, none⟩ = none := fun m ⟨es, ck, h⟩ => by simp [World.cell?, h]
    rcases hi with rfl | rfl | rfl | rfl
    · simp only [World.cell?, HBOX4.out] at hc
      have h4 : off < 4 := by
        rcases Nat.lt_or_ge off 4 with h | h
        · exact h
        · simp [Array.getElem?_eq_none (show (#[Value.slice none 0 0, .slice none 0 0, .slice none 0 0, .slice none 0 0] : Array Value).size ≤ off from h)] at hc
      have h5 : off = 0 ∨ off = 1 ∨ off = 2 ∨ off = 3 := by omega
      rcases h5 with rfl | rfl | rfl | rfl <;> simp at hc
    · rw [hmap _ (by obtain ⟨es, ck, h, _⟩ := HD4.out.ops; exact ⟨es, ck, h⟩)] at hc
      cases hc
    · rw [hmap _ (by obtain ⟨es, ck, h, _⟩ := HD4.out.wait; exact ⟨es, ck, h⟩)] at hc
      cases hc
    · rw [hmap _ (by obtain ⟨es, ck, h, _⟩ := HD4.out.out; exact ⟨es, ck, h⟩)] at hc
      cases hc))
  have HL38 := Lib.hid (show ∀ e ∈ L, e.cs.length = 38 from fun e he => OpV.cs_length (hmo.okL e he).ok _ _)
  have HOWS := Lib.hid hmo.own.srcOf
  have HOWA := Lib.hid (show ∀ g off, pv = some ⟨g, off, none⟩ → w3.heap.size ≤ g from fun g off e => (hmo.own.at e).1)
  clear hmo
  go_loopw [14] (fun i wr => ∃ (n : Nat) (O W O2 W2 : List E3) (T : List (Nm × Nat)) (BD F : Nat → Prop) (vo vw vn vm : Value), n ≤ L.length ∧ i = .int .i64 n ∧ O.length + W.length ≤ n ∧ Hid (KeepSt w4 wr b mo mw mt b2 w.heap.size b2 BL BD F O W O2 W2 T vo vw vn vm)) (fun i _ => L.length - (intOf i).toNat)
  case atStart => exact ⟨0, [], [], [], [], [], _, _, _, _, _, _, by omega, rfl, by simp, HP4⟩
  case round =>
    obtain ⟨n, O, W, O2, W2, T, BD, F, vo, vw, vn, vm, hn1, rfl, hOW, HP⟩ := hrel
    have hzr := HP.out.keep.size
    by_cases hlt : n < L.length
    · obtain ⟨ex, gx, ox, hx1, _, hx3, hpx, hx4⟩ := op_at HOWS.out.at_ HL38.out hlt
      have hgx := cellsAt_lt hx4 (by rw [HL38.out ex hx3]; omega)
      have hgx3 := HOWA.out gx ox hpx
      subst hpx
      obtain ⟨xo, hxo⟩ : ∃ y, y = ex.o := ⟨_, rfl⟩
      obtain ⟨xp, hxp⟩ : ∃ y, y = ex.p := ⟨_, rfl⟩
      obtain ⟨xc, hxc⟩ : ∃ y, y = ex.c := ⟨_, rfl⟩
      have hcsx : ex.cs = xo.cs xp xc := by rw [hxo, hxp, hxc]; rfl
      have hn4 : ∀ i, fourB b2 mo mw mt i → i < w3.heap.size := fun i hi => by
        rcases hi with rfl | rfl | rfl | rfl <;> omega
      have HCx := Lib.hid (show cellsAt wr gx (ox + n * 38) (xo.cs xp xc) from by rw [← hcsx]; exact hx4.of_block (HP.out.keep.block _ hgx (fun h => by have := hn4 gx h; omega)))
      have HOKx := Lib.hid (show xo.Ok by rw [hxo]; exact (HAW.out ex hx3).ok)
      have HEX := (HAW.out ex hx3).keeps HP.out.keep.size (fun i hi hB => HP.out.keep.block i hi hB.2)
      have HSRx := Lib.hid (show Src wr xp (pcs xo.preds) by rw [hxo, hxp]; exact HEX.src)
      have HATx := Lib.hid (show ∀ i off, xp = some ⟨i, off, none⟩ → xo.preds ≠ [] → BL i ∧ ¬ fourB b2 mo mw mt i from fun i off e hne => HEX.at_ i off (by rw [← hxp]; exact e) (by rw [← hxo]; exact hne))
      have H38x := Lib.hid (OpV.cs_length HOKx.out xp xc)
      have HON := Lib.hid (OpV.cs_one xo xp xc)
      have HOZ := Lib.hid (show (zeroOp.cs none 0).toArray.size = (xo.cs xp xc).toArray.size by rw [List.size_toArray, List.size_toArray, H38x.out]; rfl)
      have hxl := HOKx.out.len
      clear hcsx hxo hxp hxc hx1 hx3 hx4 HEX
      go_upto_region 5 with (first
        | (refine wpList_loadAgg _ rfl 46 _ rfl _ Tryz.underlying46 rfl gx (ox + n * 38) (by rfl) (xo.cs xp xc) (by rw [opInfo, H38x.out]) HCx.out ?_)
        | (refine wpList_allocZ _ rfl 46 rfl _ HZO.out ?_)
        | (refine wpList_storeNew _ wr rfl 46 _ _ rfl (zeroOp.cs none 0).toArray rfl (by rfl) (xo.cs xp xc).toArray (by rfl) (by rw [opInfo, List.size_toArray, H38x.out]) HOZ.out (by simpa using HON.out) ?_))
      obtain ⟨w6, hw6⟩ : ∃ w6, w6 = wr.alloc (.cells (xo.cs xp xc).toArray 46) := ⟨_, rfl⟩
      rw [← hw6]
      obtain ⟨k6, hk6⟩ : ∃ k, k = wr.heap.size := ⟨_, rfl⟩
      rw [← hk6]
      have hb6 : Below wr.heap.size wr w6 := by rw [hw6]; exact (Below.refl _ wr).alloc (Nat.le_refl _) _
      have hz6 : k6 < w6.heap.size := by rw [hw6, hk6]; simp
      have HR66 := Lib.hid (show w6.heap[k6]? = some (.cells (xo.cs xp xc).toArray 46 (0, 0)) by rw [hw6, hk6]; exact (MapKept.heap_alloc _ _).1)
      have hk6r : wr.heap.size ≤ k6 := by omega
      have HP9 := Lib.hid (HP.out.under hb6)
      have HBr9 := Lib.hid hb6
      have hz69 := hb6.size
      have HBDr := Lib.hid (show ∀ i, BD i → i < wr.heap.size from fun i hi => (HP.out.bd i hi).2.1)
      have HFr := Lib.hid HP.out.ref.flt
      clear hw6 hk6 hb6
      have HBw9 := Lib.hid (show Below w.heap.size w w6 from HB4.out.trans (HP9.out.keep.toBelow (by omega) (fun i hi h => by rcases h with rfl | rfl | rfl | rfl <;> omega)))
      have HC66 := Lib.hid (show cellsAt w6 k6 0 (xo.cs xp xc) from fun j u hj => by rw [cell_of_row _ _ _ _ _ _ HR66.out, Nat.zero_add]; simpa using hj)
      have HCT := Lib.hid (take_any b mo mw mt BD O W T xo HOKx.out xp xc w6 (HT.out.of_below HBw9.out HT.out.2.2) HP9.out.dag HP9.out.inv (HSRx.out.below HBr9.out (Nat.le_refl _)) (by omega) (fun i hi => (HP9.out.bd i hi).2.1))
      obtain ⟨rs, hrs⟩ : ∃ q, q = takeD ⟨O.map E3.ent, W.map E3.ent⟩ xo := ⟨_, rfl⟩
      have HINR := Lib.hid (show DInv rs.1 by rw [hrs]; exact HP.out.inv.take xo)
      have HLN := Lib.hid (show rs.1.ops.length + rs.1.wait.length ≤ O.length + W.length + 1 by rw [hrs]; simpa using takeD_len ⟨O.map E3.ent, W.map E3.ent⟩ xo)
      have HRS := Lib.hid (show takeD ⟨O2.map E3.ent, W2.map E3.ent⟩ xo = rs by rw [HP.out.e1, HP.out.e2, hrs])
      rw [← hrs] at HCT
      clear hrs
      go_upto_region 6 with (first
        | (refine wpList_loadAgg _ rfl 46 _ rfl _ Tryz.underlying46 rfl k6 0 (by rfl) (xo.cs xp xc) (by rw [opInfo, H38x.out]) HC66.out ?_)
        | (go_at_call 33; refine HCT.out.mono ?_; rintro e w10 ⟨v10, BD', O', W', T', rfl, hO', hW', hD', hB', hv10, hk10⟩))
      have hz10 := hk10.size
      have hln4 : O'.length + W'.length ≤ n + 1 := by
        have h1 := HLN.out
        have h2 := len_ent' hO'
        have h3 := len_ent' hW'
        omega
      have h3r : ∀ i, threeB mo mw mt i → i < wr.heap.size := fun i hi => HBDr.out i (HP.out.three i hi)
      have HR610 := Lib.hid ((hk10.block k6 (by omega) (fun h => by have := h3r _ h; omega)).trans HR66.out)
      have HC610 := Lib.hid (show cellsAt w10 k6 0 (xo.cs xp xc) from fun j u hj => by rw [cell_of_row _ _ _ _ _ _ HR610.out, Nat.zero_add]; simpa using hj)
      have HSR10 := Lib.hid (((HSRx.out.below HBr9.out (Nat.le_refl _))).of_blocks hk10.size (fun i off e hlt' hne => hk10.block i hlt' (fun h => (HATx.out i off e (pcs_ne hne)).2 (.inr h))))
      have HREF10 := Lib.hid (HP9.out.refAt hk10)
      have HBw10 := Lib.hid (show Below w.heap.size w w10 from HBw9.out.trans (hk10.toBelow HBw9.out.size (fun i hi h => by rcases h with rfl | rfl | rfl <;> omega)))
      have hcr := rtake_any b2 vo vw vn vm F (fun i => BL i ∧ ¬ fourB b2 mo mw mt i) O2 W2 xo HOKx.out xp xc w10 (HT.out.of_below HBw10.out HT.out.2.2) HREF10.out (by rw [HP.out.e1, HP.out.e2]; exact HP.out.inv) HSR10.out HATx.out (by
        have h2 := congrArg List.length HP.out.e1
        have h3 := congrArg List.length HP.out.e2
        simp only [List.length_map] at h2 h3
        omega)
      rw [HRS.out] at hcr
      have HCR := Lib.hid hcr
      have HFIN1 := Lib.hid (show ∀ (wq : World) (F' : Nat → Prop) (O2' W2' : List E3) (vo' vw' vn' vm' : Value), RefSet wq b2 vo' vw' vn' vm' F' (fun i => BL i ∧ ¬ fourB b2 mo mw mt i) O2' W2' → (∀ i, F' i → F i ∨ w10.heap.size ≤ i) → Keeps F w10 wq → O2'.map E3.ent = rs.1.ops → W2'.map E3.ent = rs.1.wait →
          KeepSt w4 wq b mo mw mt b2 w.heap.size b2 BL BD' F' O' W' O2' W2' T' vo' vw' vn' vm' from fun wq F' O2' W2' vo' vw' vn' vm' h1 h2 h3 h4 h5 =>
        HP9.out.take hD' hB' hk10 h1 h2 h3 (by rw [hO', hW']; exact HINR.out) (by rw [h4, hO']) (by rw [h5, hW']))
      clear hcr hk10 hv10 hB' hD' hO' hW' h3r
      go_wp2_with (first
        | (refine wpList_loadAgg _ rfl 46 _ rfl _ Tryz.underlying46 rfl k6 0 (by rfl) (xo.cs xp xc) (by rw [opInfo, H38x.out]) HC610.out ?_)
        | (go_at_call 36; refine HCR.out.mono ?_; rintro e w11 ⟨v11, vo', vw', vn', vm', F', O2', W2', rfl, hO2', hW2', hr11, hF11, hv11, hk11⟩))
      have HP11 := Lib.hid (HFIN1.out w11 F' O2' W2' vo' vw' vn' vm' hr11 hF11 hk11 hO2' hW2')
      clear hr11 hF11 hv11 hk11 hO2' hW2' HFIN1
      go_roundw
      case rel => exact ⟨n + 1, O', W', O2', W2', T', BD', F', vo', vw', vn', vm', by omega, by go_num, hln4, HP11⟩
      case measure => simp [intOf] <;> omega
    · obtain rfl : n = L.length := by omega
      have HBwE := Lib.hid (show Below w.heap.size w wr from HB4.out.trans (HP.out.keep.toBelow (by omega) (fun i hi h => by rcases h with rfl | rfl | rfl | rfl <;> omega)))
      go_wp2
      go_ret2
      exact ⟨b, b2, O, W, O2, W2, rfl, by omega, ⟨mo, mw, mt, BD, T, HP.out.dag⟩, ⟨vo, vw, vn, vm, F, _, HP.out.ref⟩, HP.out.inv, HP.out.e1, HP.out.e2, HBwE.out⟩
end Go.Proofs.YtfoifdhcelcgiaaGreatDoor
