/-
  DagKeeps, walked: what is handed in stays, and isn't kept; what is answered is new memory.
-/
import Derived.Test.YtfoifdhcelcgiaaDoorKeepP
namespace Go.Proofs.YtfoifdhcelcgiaaDoor
open Go Go.RowKit

set_option maxRecDepth 100000 in
set_option maxHeartbeats 40000000 in
theorem keeps_any (M : List MkV) (hM : ∀ m ∈ M, m.Ok) (p : Option Addr) (cap : Nat) (w : World) (hT : Tabs w) (hs : Src w p (mcs M)) (hps : ∀ m ∈ M, Src w m.p (pcs m.o.preds)) (hMl : M.length ≤ 1000000000) :
    Calls Tryd.prog 4 #[.slice p M.length cap] w fun e w' => e = .returned (.bool true) ∧ Below w.heap.size w w' := by
  obtain ⟨i0, hi, hz0, hz1, hz2⟩ := info_parts idInfo3
  obtain ⟨hz, hid⟩ := info_two idInfo
  obtain ⟨hzo, _⟩ := info_two opZero
  have HZ := Lib.hid hz
  have HI := Lib.hid hid
  have HZO := Lib.hid hzo
  have HM := Lib.hid hM
  have HS := Lib.hid hs
  have HPS := Lib.hid hps
  have HT := Lib.hid hT
  clear hz hid hzo hM hs hps hT
  go_enter Tryd.func4, Tryd.ntmps4
  go_upto_region 3 with (go_at_call 7; refine (alive_any w HT.out).mono ?_; rintro e w1 ⟨rfl, hb1⟩)
  have hz1w := hb1.size
  have HB1 := Lib.hid hb1
  clear hb1
  go_upto_region 4 with (first
    | (go_at_call 9; refine (dnew_any w1).mono ?_; rintro e w2 ⟨b, mo, mw, mt, rfl, hd2, hb2⟩)
    | (refine wpList_buildZ _ rfl 48 rfl _ (build_set _) ?_)
    | (refine wpList_boxAgg _ rfl 48 _ rfl #[.slice none 0 0, .slice none 0 0, .slice none 0 0, .slice none 0 0] (by rfl) ?_))
  have hz2w := hb2.size
  obtain ⟨w3, hw3⟩ : ∃ w3, w3 = w2.alloc (.cells #[.slice none 0 0, .slice none 0 0, .slice none 0 0, .slice none 0 0] 48) := ⟨_, rfl⟩
  obtain ⟨b2, hb2x⟩ : ∃ k, k = w2.heap.size := ⟨_, rfl⟩
  rw [← hw3, ← hb2x]
  have hb23 : Below w2.heap.size w2 w3 := by rw [hw3]; exact (Below.refl _ w2).alloc (Nat.le_refl _) _
  have hz3 : w3.heap.size = w2.heap.size + 1 := by rw [hw3]; simp
  have HBOX3 := Lib.hid (show w3.heap[b2]? = some (.cells #[.slice none 0 0, .slice none 0 0, .slice none 0 0, .slice none 0 0] 48 (0, 0)) by rw [hw3, hb2x]; exact (MapKept.heap_alloc _ _).1)
  have HD3 := Lib.hid (hd2.cut.under hb23)
  have HB3 := Lib.hid (HB1.out.trans ((hb2.trans (hb23.mono hz2w)).mono hz1w))
  have hz3w : w1.heap.size ≤ w3.heap.size := by omega
  have hb2a : w1.heap.size ≤ b2 := by omega
  have hb2b : b2 < w3.heap.size := by omega
  have hb2c : w3.heap.size ≤ b2 + 1 := by omega
  have hb2d : b2 ≤ w2.heap.size := by omega
  have hb2e : w2.heap.size ≤ b2 := by omega
  have hm3 : mo < w2.heap.size ∧ mw < w2.heap.size ∧ mt < w2.heap.size ∧ w1.heap.size ≤ mo ∧ w1.heap.size ≤ mw ∧ w1.heap.size ≤ mt := ⟨hd2.ops.lt, hd2.wait.lt, hd2.out.lt, hd2.inB.2.1, hd2.inB.2.2.1, hd2.inB.2.2.2⟩
  have HCM := Lib.hid (made_any M HM.out p cap w3 (HT.out.of_below HB3.out HT.out.2.2) (HS.out.below HB3.out (Nat.le_refl _)) (fun m hm => (HPS.out m hm).below HB3.out (Nat.le_refl _)) hMl)
  clear hw3 hb2x hb23 hd2 hb2 hz3
  go_wp2_with (go_at_call 8; refine HCM.out.mono ?_; rintro e w4 ⟨v, L, BL, rfl, hmo⟩; obtain ⟨pv, cv, rfl⟩ := hmo.own.form)
  have HMO := Lib.hid hmo
  have hz4 := hmo.below.size
  have hL30 := hmo.len
  have HBOX4 := Lib.hid ((hmo.below.block b2 hb2b).trans HBOX3.out)
  have HD4 := Lib.hid (HD3.out.under hmo.below)
  have HB4 := Lib.hid (HB3.out.trans (hmo.below.mono HB3.out.size))
  have HP4 := Lib.hid (show KeepSt w4 w4 b mo mw mt b2 w1.heap.size b2 BL (fun i => w1.heap.size ≤ i ∧ i < w2.heap.size) (fun i => i = b2) [] [] [] [] [] (.slice none 0 0) (.slice none 0 0) (.slice none 0 0) (.slice none 0 0) by
    have hn : ∀ g, (Value.slice none 0 0).ownBlock = some g → False := fun g hg => by simp [Value.ownBlock] at hg
    exact ⟨HD4.out, ⟨HBOX4.out, Owns.nil _ _ _ _, Owns.nil _ _ _ _, Owns.nil _ _ _ _, Owns.nil _ _ _ _, by simp, by simp, rfl, fun g hg => (hn g hg).elim, fun g hg => (hn g hg).elim, fun g hg => (hn g hg).elim, fun g hg => (hn g hg).elim, fun i hi hb => hb.2 (.inl hi), fun i hi => by omega, fun i hi => hmo.blt i hi.1, fun g hg => (hn g hg).elim, fun g hg => (hn g hg).elim⟩, DInv.nil, rfl, rfl, fun i hi => ⟨.inl ⟨hi.1, by omega⟩, by omega, by omega⟩, fun i hi => .inl hi, hmo.blt, Keeps.refl _ _⟩)
  have HAW := Lib.hid (show ∀ e ∈ L, e.Ok w4 (fun i => BL i ∧ ¬ fourB b2 mo mw mt i) from fun e he => (hmo.okL e he).away (fun i hi off x hc => by
    have hmap : ∀ m, (∃ es ck, w4.heap[m]? = some (.map es ck)) → w4.cell? ⟨m, off, none⟩ = none := fun m ⟨es, ck, h⟩ => by simp [World.cell?, h]
    rcases hi with rfl | rfl | rfl | rfl
    · simp only [World.cell?, HBOX4.out] at hc
      have h4 : off < 4 := by
        rcases Nat.lt_or_ge off 4 with h | h
        · exact h
        · simp [Array.getElem?_eq_none (show (#[Value.slice none 0 0, .slice none 0 0, .slice none 0 0, .slice none 0 0] : Array Value).size ≤ off from h)] at hc
      have h5 : off = 0 ∨ off = 1 ∨ off = 2 ∨ off = 3 := by omega
      rcases h5 with rfl | rfl | rfl | rfl <;> simp at hc
    · rw [hmap _ (by obtain ⟨es, ck, h, _⟩ := HD4.out.ops; exact ⟨es, ck, h⟩)] at hc
      cases hc
    · rw [hmap _ (by obtain ⟨es, ck, h, _⟩ := HD4.out.wait; exact ⟨es, ck, h⟩)] at hc
      cases hc
    · rw [hmap _ (by obtain ⟨es, ck, h, _⟩ := HD4.out.out; exact ⟨es, ck, h⟩)] at hc
      cases hc))
  have HL38 := Lib.hid (show ∀ e ∈ L, e.cs.length = 38 from fun e he => OpV.cs_length (hmo.okL e he).ok _ _)
  have HOWS := Lib.hid hmo.own.srcOf
  have HOWA := Lib.hid (show ∀ g off, pv = some ⟨g, off, none⟩ → w3.heap.size ≤ g from fun g off e => (hmo.own.at e).1)
  clear hmo
  go_loopw [25] (fun i wr => ∃ (n : Nat) (O W O2 W2 : List E3) (T : List (Nm × Nat)) (BD F : Nat → Prop) (vo vw vn vm : Value), n ≤ L.length ∧ i = .int .i64 n ∧ O.length + W.length ≤ n ∧ Hid (KeepSt w4 wr b mo mw mt b2 w1.heap.size b2 BL BD F O W O2 W2 T vo vw vn vm)) (fun i _ => L.length - (intOf i).toNat)
  case atStart => exact ⟨0, [], [], [], [], [], _, _, _, _, _, _, by omega, rfl, by simp, HP4⟩
  case round =>
    obtain ⟨n, O, W, O2, W2, T, BD, F, vo, vw, vn, vm, hn1, rfl, hOW, HP⟩ := hrel
    have hzr := HP.out.keep.size
    by_cases hlt : n < L.length
    · obtain ⟨ex, gx, ox, hx1, _, hx3, hpx, hx4⟩ := op_at HOWS.out.at_ HL38.out hlt
      have hgx := cellsAt_lt hx4 (by rw [HL38.out ex hx3]; omega)
      have hgx3 := HOWA.out gx ox hpx
      subst hpx
      obtain ⟨xo, hxo⟩ : ∃ y, y = ex.o := ⟨_, rfl⟩
      obtain ⟨xp, hxp⟩ : ∃ y, y = ex.p := ⟨_, rfl⟩
      obtain ⟨xc, hxc⟩ : ∃ y, y = ex.c := ⟨_, rfl⟩
      have hcsx : ex.cs = xo.cs xp xc := by rw [hxo, hxp, hxc]; rfl
      have hn4 : ∀ i, fourB b2 mo mw mt i → i < w3.heap.size := fun i hi => by
        rcases hi with rfl | rfl | rfl | rfl <;> omega
      have HCx := Lib.hid (show cellsAt wr gx (ox + n * 38) (xo.cs xp xc) from by rw [← hcsx]; exact hx4.of_block (HP.out.keep.block _ hgx (fun h => by have := hn4 gx h; omega)))
      have HOKx := Lib.hid (show xo.Ok by rw [hxo]; exact (HAW.out ex hx3).ok)
      have HEX := (HAW.out ex hx3).keeps HP.out.keep.size (fun i hi hB => HP.out.keep.block i hi hB.2)
      have HSRx := Lib.hid (show Src wr xp (pcs xo.preds) by rw [hxo, hxp]; exact HEX.src)
      have HATx := Lib.hid (show ∀ i off, xp = some ⟨i, off, none⟩ → xo.preds ≠ [] → BL i ∧ ¬ fourB b2 mo mw mt i from fun i off e hne => HEX.at_ i off (by rw [← hxp]; exact e) (by rw [← hxo]; exact hne))
      have H38x := Lib.hid (OpV.cs_length HOKx.out xp xc)
      have HON := Lib.hid (OpV.cs_one xo xp xc)
      have HOZ := Lib.hid (show (zeroOp.cs none 0).toArray.size = (xo.cs xp xc).toArray.size by rw [List.size_toArray, List.size_toArray, H38x.out]; rfl)
      have hxl := HOKx.out.len
      clear hcsx hxo hxp hxc hx1 hx3 hx4 HEX
      have HC1 := Lib.hid (show cellsAt (wr.alloc (.cells (xo.cs xp xc).toArray 38)) wr.heap.size 0 (xo.cs xp xc) by simpa using cellsAt_new wr (xo.cs xp xc).toArray 38)
      go_upto_region 8 with (first
        | (refine wpList_loadAgg _ rfl 38 _ rfl _ Tryd.underlying38 rfl gx (ox + n * 38) (by rfl) (xo.cs xp xc) (by rw [opInfo, H38x.out]) HCx.out ?_)
        | (refine wpList_allocZ _ rfl 38 rfl _ HZO.out ?_)
        | (refine wpList_storeNew _ wr rfl 38 _ _ rfl (zeroOp.cs none 0).toArray rfl (by rfl) (xo.cs xp xc).toArray (by rfl) (by rw [opInfo, List.size_toArray, H38x.out]) HOZ.out (by simpa using HON.out) ?_)
        | (refine wpList_loadAgg _ rfl 38 _ rfl _ Tryd.underlying38 rfl wr.heap.size 0 (by rfl) (xo.cs xp xc) (by rw [opInfo, H38x.out]) HC1.out ?_)
        | (refine wpList_storeNew _ (wr.alloc (.cells (xo.cs xp xc).toArray 38)) rfl 38 _ _ rfl (zeroOp.cs none 0).toArray rfl (by rfl) (xo.cs xp xc).toArray (by rfl) (by rw [opInfo, List.size_toArray, H38x.out]) HOZ.out (by simpa using HON.out) ?_))
      obtain ⟨w6, hw6⟩ : ∃ w6, w6 = (wr.alloc (.cells (xo.cs xp xc).toArray 38)).alloc (.cells (xo.cs xp xc).toArray 38) := ⟨_, rfl⟩
      rw [← hw6]
      obtain ⟨k6, hk6⟩ : ∃ k, k = wr.heap.size := ⟨_, rfl⟩
      obtain ⟨k7, hk7⟩ : ∃ k, k = wr.heap.size + 1 := ⟨_, rfl⟩
      try rw [World.size_alloc]
      rw [← hk7, ← hk6]
      have hb6 : Below wr.heap.size wr w6 := by rw [hw6]; exact ((Below.refl _ wr).alloc (Nat.le_refl _) _).alloc (by simp) _
      have hz6 : wr.heap.size + 2 ≤ w6.heap.size := by rw [hw6]; simp
      have HR66 := Lib.hid (show w6.heap[k6]? = some (.cells (xo.cs xp xc).toArray 38 (0, 0)) by rw [hw6, hk6]; exact ((MapKept.heap_alloc _ _).2 _ (by simp)).trans (MapKept.heap_alloc _ _).1)
      have HR76 := Lib.hid (show w6.heap[k7]? = some (.cells (xo.cs xp xc).toArray 38 (0, 0)) by rw [hw6, hk7]; exact heap_alloc2 _ _ _)
      have hk6r : wr.heap.size ≤ k6 := by omega
      have hk67 : k6 < k7 := by omega
      have hk7l : k7 < w6.heap.size := by omega
      have HP6 := Lib.hid (HP.out.under hb6)
      have HSR6 := Lib.hid (HSRx.out.below hb6 (Nat.le_refl _))
      have HBDr := Lib.hid (show ∀ i, BD i → i < wr.heap.size from fun i hi => (HP.out.bd i hi).2.1)
      have HFr := Lib.hid HP.out.ref.flt
      have HB6r := Lib.hid hb6
      clear hw6 hk6 hk7 hb6
      obtain ⟨w7, hw7⟩ : ∃ w7, w7 = w6.alloc (.cells #[] 34) := ⟨_, rfl⟩
      have hb67 : Below w6.heap.size w6 w7 := by rw [hw7]; exact (Below.refl _ w6).alloc (Nat.le_refl _) _
      have HO7 := Lib.hid (show Owns w7 w6.heap.size 34 32 (.slice (some ⟨w6.heap.size, 0, none⟩) 0 0) 0 [] by rw [hw7]; exact Owns.newNil w6 w6.heap.size 34 32 (Nat.le_refl _))
      have hz7 := hb67.size
      have HR67 := Lib.hid ((hb67.block k6 (by omega)).trans HR66.out)
      have HR77 := Lib.hid ((hb67.block k7 hk7l).trans HR76.out)
      have HSR7 := Lib.hid (HSR6.out.below hb67 (Nat.le_refl _))
      have hc6 : w7.cell? ⟨k6, 37, none⟩ = some (.slice xp xo.preds.length xc) := (OpV.cs_at HOKx.out (show cellsAt w7 k6 0 (xo.cs xp xc) from fun j u hj => by rw [cell_of_row _ _ _ _ _ _ HR67.out, Nat.zero_add]; simpa using hj)).2.2
      have HPL := Lib.hid (show (pcs xo.preds).length = xo.preds.length * 32 by rw [pcs_length HOKx.out.ids, Nat.mul_comm])
      have HP1 := Lib.hid (pcs_one xo.preds)
      have HP7 := Lib.hid (HP6.out.under hb67)
      have HW7 := Lib.hid hw7
      have HB67 := Lib.hid hb67
      clear hw7 hb67
      refine wp_region_list ?_
      refine wpList_buildNil rfl 29 rfl 34 32 Tryd.underlying29 HI.out ?_
      rw [← HW7.out]
      go_simp
      go_upto_region 9 with (first
        | (at_builtin; refine wpList_append_S rfl _ _ 29 rfl w6.heap.size 34 i0 _ 32 32 Tryd.underlying29 hi hz0 hz1 hz2 (by rfl) (by omega) (.slice (some ⟨w6.heap.size, 0, none⟩) 0 0) 0 [] (by rfl) HO7.out xp xo.preds.length xc (pcs xo.preds) (by rfl) HPL.out HSR7.out HP1.out (by unfold maxLen; omega) (by omega) (by omega) ?_; intro v8 w8 hown8 hg8 hs8; simp only [Nat.zero_add, List.nil_append] at hown8; obtain ⟨p8, c8, hp8⟩ := hown8.form; subst hp8; have hr7 := (hg8.block k7 (by omega) (fun e => by have e1 : k7 = w6.heap.size := Option.some.inj e; omega)).trans HR77.out; have hc7 := (OpV.cs_at HOKx.out (show cellsAt w8 k7 0 (xo.cs xp xc) from fun j u hj => by rw [cell_of_row _ _ _ _ _ _ hr7, Nat.zero_add]; simpa using hj)).2.2; have hf7 : w8.frozen? ⟨k7, 37, none⟩ = false := by simp [World.frozen?, hr7]))
      obtain ⟨w9, hw9⟩ : ∃ w9, w9 = w8.setCell ⟨k7, 37, none⟩ (.slice p8 xo.preds.length c8) := ⟨_, rfl⟩
      rw [← hw9]
      have hz8 := hg8.size
      have hr6 := (hg8.block k6 (by omega) (fun e => by have e1 : k6 = w6.heap.size := Option.some.inj e; omega)).trans HR67.out
      have HR69 := Lib.hid (show w9.heap[k6]? = some (.cells (xo.cs xp xc).toArray 38 (0, 0)) by rw [hw9]; exact (Below.heap_setCell _ _ _ _ (fun e => by have e' : k6 = k7 := e; omega)).trans hr6)
      have HR79 := Lib.hid (show w9.heap[k7]? = some (.cells (xo.cs p8 c8).toArray 38 (0, 0)) by rw [hw9, setCell_eq_setRow w8 k7 37 _ _ (0, 0) _ hr7, setRow_heap w8 k7 _ _ _ (0, 0) hr7, OpV.cs_set HOKx.out])
      have hz79 : w8.heap.size = w9.heap.size := by rw [hw9]; simp [World.setCell]
      have HBr9 := Lib.hid (show Below wr.heap.size wr w9 by
        rw [hw9]
        exact ((HB6r.out.trans (HB67.out.mono (by omega))).grown hg8 (by omega) (fun k e => by have e1 : w6.heap.size = k := Option.some.inj e; omega)).setCell (by show wr.heap.size ≤ k7; omega) _)
      have HOW9 := Lib.hid (show Owns w9 w6.heap.size 34 32 (.slice p8 xo.preds.length c8) xo.preds.length (pcs xo.preds) by
        rw [hw9]
        exact hown8.keep (fun g hg => Below.heap_setCell _ _ _ _ (fun e => by have h1 := (hown8.lt hg).1; have e' : g = k7 := e; omega)))
      have HPL8 := Lib.hid hown8.place
      have HG8 := Lib.hid (show ∀ g, p8 = some ⟨g, 0, none⟩ → w6.heap.size ≤ g ∧ g < w9.heap.size from fun g e => by have := hown8.lt (g := g) (by rw [e]; rfl); omega)
      clear hw9 hr6 hr7 hc7 hf7 hg8 hs8 hown8 hc6
      have HP9 := Lib.hid (HP.out.under HBr9.out)
      have HBw9 := Lib.hid (show Below w.heap.size w w9 from HB4.out.trans (HP9.out.keep.toBelow (by omega) (fun i hi h => by rcases h with rfl | rfl | rfl | rfl <;> omega)))
      have HC79 := Lib.hid (show cellsAt w9 k7 0 (xo.cs p8 c8) from fun j u hj => by rw [cell_of_row _ _ _ _ _ _ HR79.out, Nat.zero_add]; simpa using hj)
      have HCT := Lib.hid (take_any b mo mw mt BD O W T xo HOKx.out p8 c8 w9 (HT.out.of_below HBw9.out HT.out.2.2) HP9.out.dag HP9.out.inv HOW9.out.srcOf (by omega) (fun i hi => (HP9.out.bd i hi).2.1))
      obtain ⟨rs, hrs⟩ : ∃ q, q = takeD ⟨O.map E3.ent, W.map E3.ent⟩ xo := ⟨_, rfl⟩
      have HINR := Lib.hid (show DInv rs.1 by rw [hrs]; exact HP.out.inv.take xo)
      have HLN := Lib.hid (show rs.1.ops.length + rs.1.wait.length ≤ O.length + W.length + 1 by rw [hrs]; simpa using takeD_len ⟨O.map E3.ent, W.map E3.ent⟩ xo)
      have HRS := Lib.hid (show takeD ⟨O2.map E3.ent, W2.map E3.ent⟩ xo = rs by rw [HP.out.e1, HP.out.e2, hrs])
      rw [← hrs] at HCT
      clear hrs
      have H38y := Lib.hid (OpV.cs_length HOKx.out p8 c8)
      go_upto_region 10 with (first
        | (refine wpList_loadAgg _ rfl 38 _ rfl _ Tryd.underlying38 rfl k7 0 (by rfl) (xo.cs p8 c8) (by rw [opInfo, H38y.out]) HC79.out ?_)
        | (go_at_call 10; refine HCT.out.mono ?_; rintro e w10 ⟨v10, BD', O', W', T', rfl, hO', hW', hD', hB', hv10, hk10⟩))
      have hz10 := hk10.size
      have hln4 : O'.length + W'.length ≤ n + 1 := by
        have h1 := HLN.out
        have h2 := len_ent' hO'
        have h3 := len_ent' hW'
        omega
      have h3r : ∀ i, threeB mo mw mt i → i < wr.heap.size := fun i hi => HBDr.out i (HP.out.three i hi)
      have HR610 := Lib.hid ((hk10.block k6 (by omega) (fun h => by have := h3r _ h; omega)).trans HR69.out)
      have HR710 := Lib.hid ((hk10.block k7 (by omega) (fun h => by have := h3r _ h; omega)).trans HR79.out)
      have HOW10 := Lib.hid (HOW9.out.keep (w' := w10) (fun g hg => hk10.block g (HOW9.out.lt hg).2 (fun h => by have h1 := h3r _ h; have h2 := (HOW9.out.lt hg).1; omega)))
      have HC610 := Lib.hid (show cellsAt w10 k6 0 (xo.cs xp xc) from fun j u hj => by rw [cell_of_row _ _ _ _ _ _ HR610.out, Nat.zero_add]; simpa using hj)
      have HSR10 := Lib.hid (((HSRx.out.below HBr9.out (Nat.le_refl _))).of_blocks hk10.size (fun i off e hlt' hne => hk10.block i hlt' (fun h => (HATx.out i off e (pcs_ne hne)).2 (.inr h))))
      have HREF10 := Lib.hid (HP9.out.refAt hk10)
      have HBw10 := Lib.hid (show Below w.heap.size w w10 from HBw9.out.trans (hk10.toBelow HBw9.out.size (fun i hi h => by rcases h with rfl | rfl | rfl <;> omega)))
      have hcr := rtake_any b2 vo vw vn vm F (fun i => BL i ∧ ¬ fourB b2 mo mw mt i) O2 W2 xo HOKx.out xp xc w10 (HT.out.of_below HBw10.out HT.out.2.2) HREF10.out (by rw [HP.out.e1, HP.out.e2]; exact HP.out.inv) HSR10.out HATx.out (by
        have h2 := congrArg List.length HP.out.e1
        have h3 := congrArg List.length HP.out.e2
        simp only [List.length_map] at h2 h3
        omega)
      rw [HRS.out] at hcr
      have HCR := Lib.hid hcr
      have HFIN1 := Lib.hid (show ∀ (wq : World) (F' : Nat → Prop) (O2' W2' : List E3) (vo' vw' vn' vm' : Value), RefSet wq b2 vo' vw' vn' vm' F' (fun i => BL i ∧ ¬ fourB b2 mo mw mt i) O2' W2' → (∀ i, F' i → F i ∨ w10.heap.size ≤ i) → Keeps F w10 wq → O2'.map E3.ent = rs.1.ops → W2'.map E3.ent = rs.1.wait →
          KeepSt w4 wq b mo mw mt b2 w1.heap.size b2 BL BD' F' O' W' O2' W2' T' vo' vw' vn' vm' from fun wq F' O2' W2' vo' vw' vn' vm' h1 h2 h3 h4 h5 =>
        HP9.out.take hD' hB' hk10 h1 h2 h3 (by rw [hO', hW']; exact HINR.out) (by rw [h4, hO']) (by rw [h5, hW']))
      have HB'lt := Lib.hid (show ∀ i, BD' i → i < wr.heap.size ∨ w9.heap.size ≤ i from fun i hi => (hB' i hi).1.imp (HBDr.out i) id)
      clear hcr hk10 hv10 hB' hD' hO' hW' h3r
      go_upto_region 11 with (first
        | (refine wpList_loadAgg _ rfl 38 _ rfl _ Tryd.underlying38 rfl k6 0 (by rfl) (xo.cs xp xc) (by rw [opInfo, H38x.out]) HC610.out ?_)
        | (go_at_call 16; refine HCR.out.mono ?_; rintro e w11 ⟨v11, vo', vw', vn', vm', F', O2', W2', rfl, hO2', hW2', hr11, hF11, hv11, hk11⟩))
      have hz11 := hk11.size
      have HP11 := Lib.hid (HFIN1.out w11 F' O2' W2' vo' vw' vn' vm' hr11 hF11 hk11 hO2' hW2')
      have HR611 := Lib.hid ((hk11.block k6 (by omega) (fun h => by have := HFr.out _ h; omega)).trans HR610.out)
      have HR711 := Lib.hid ((hk11.block k7 (by omega) (fun h => by have := HFr.out _ h; omega)).trans HR710.out)
      have HOW11 := Lib.hid (HOW10.out.keep (w' := w11) (fun g hg => hk11.block g (HOW10.out.lt hg).2 (fun h => by have h1 := HFr.out _ h; have h2 := (HOW10.out.lt hg).1; omega)))
      have HC611 := Lib.hid (show cellsAt w11 k6 0 (xo.cs xp xc) from fun j u hj => by rw [cell_of_row _ _ _ _ _ _ HR611.out, Nat.zero_add]; simpa using hj)
      have HC711 := Lib.hid (show cellsAt w11 k7 0 (xo.cs p8 c8) from fun j u hj => by rw [cell_of_row _ _ _ _ _ _ HR711.out, Nat.zero_add]; simpa using hj)
      have HSR11 := Lib.hid (HSR10.out.of_blocks hk11.size (fun i off e hlt' hne => hk11.block i hlt' (fun h => by
        have h1 := HATx.out i off e (pcs_ne hne)
        have h2 := HP9.out.bl i h1.1
        exact (HP9.out.fn i h).elim (fun h3 => h1.2 (.inl h3)) (fun h3 => by omega))))
      have HF'lt := Lib.hid (show ∀ i, F' i → i < wr.heap.size ∨ w10.heap.size ≤ i from fun i hi => (hF11 i hi).imp (HFr.out i) id)
      clear hr11 hF11 hv11 hk11 hO2' hW2' HFIN1
      go_upto_region 13 with (first
        | (refine wpList_loadAgg _ rfl 38 _ rfl _ Tryd.underlying38 rfl k7 0 (by rfl) (xo.cs p8 c8) (by rw [opInfo, H38y.out]) HC711.out ?_)
        | (refine wpList_loadAgg _ rfl 38 _ rfl _ Tryd.underlying38 rfl k6 0 (by rfl) (xo.cs xp xc) (by rw [opInfo, H38x.out]) HC611.out ?_)
        | (go_at_call 17; refine (same_self xo HOKx.out p8 xp c8 xc w11 HOW11.out.srcOf HSR11.out).mono ?_; rintro e w12 ⟨rfl, hb12⟩))
      have hz12 := hb12.size
      have HP12 := Lib.hid (HP11.out.under hb12)
      have HR712 := Lib.hid ((hb12.block k7 (by omega)).trans HR711.out)
      have HOW12 := Lib.hid (HOW11.out.under hb12)
      have hc37 := (OpV.cs_at HOKx.out (show cellsAt w12 k7 0 (xo.cs p8 c8) from fun j u hj => by rw [cell_of_row _ _ _ _ _ _ HR712.out, Nat.zero_add]; simpa using hj)).2.2
      go_wp2_with fail
      clear hc37 hb12
      obtain ⟨wP, hwP⟩ : ∃ wP, wP = wr := ⟨_, rfl⟩
      subst hwP
      go_loopw [48] (fun i wr => ∃ n3 : Nat, n3 ≤ xo.preds.length ∧ i = .int .i64 n3 ∧ Hid (KeepSt w4 wr b mo mw mt b2 w1.heap.size b2 BL BD' F' O' W' O2' W2' T' vo' vw' vn' vm') ∧ Hid (wr.heap[k7]? = some (.cells (xo.cs p8 c8).toArray 38 (0, 0))) ∧ Hid (∀ g, p8 = some ⟨g, 0, none⟩ → ByteRow wr g xo.preds.length)) (fun i _ => xo.preds.length - (intOf i).toNat)
      case atStart => exact ⟨0, by omega, rfl, HP12, HR712, Lib.hid (ByteRow.of_src HOW12.out HOKx.out.ids)⟩
      case round =>
        obtain ⟨n3, hn3, rfl, HPr, HR7r, hrow⟩ := hrel
        by_cases hlt3 : n3 < xo.preds.length
        · obtain ⟨g, rfl⟩ : ∃ g, p8 = some ⟨g, 0, none⟩ := HPL8.out.elim (fun h => absurd h (by omega)) id
          have HROW := Lib.hid (hrow.out g rfl)
          obtain ⟨z, hz0⟩ := HROW.out.cell hlt3
          have HCZ := Lib.hid hz0
          have HFZ := Lib.hid (HROW.out.free (n3 * 32))
          have hg8 := HG8.out g rfl
          have hlti : (n3 : Int) < (xo.preds.length : Int) := by omega
          clear hz0
          go_upto_region 16 with fail
          refine wp_region_noPanic ?_
          refine wp_region_till 9 (fun w' => w' = wr.drew) (by kernel_rfl) (by kernel_rfl) ?_
          obtain ⟨wV, hwV⟩ : ∃ wV, wV = wr.drew := ⟨_, rfl⟩
          have HWV := Lib.hid hwV
          rw [← hwV]
          have HSV := Lib.hid (rfl : wV = wV)
          clear hwV
          go_simp
          have HC37 := Lib.hid (show wV.cell? ⟨k7, 37, none⟩ = some (.slice (some ⟨g, 0, none⟩) xo.preds.length c8) by rw [HWV.out]; exact (OpV.cs_at HOKx.out (show cellsAt wr k7 0 (xo.cs (some ⟨g, 0, none⟩) c8) from fun j u hj => by rw [cell_of_row _ _ _ _ _ _ HR7r.out, Nat.zero_add]; simpa using hj)).2.2)
          have HC0 := Lib.hid (show wV.cell? ⟨g, n3 * 32, none⟩ = some (.int .u8 z) by rw [HWV.out]; exact HCZ.out)
          refine Till.pure 0 rfl rfl (by kernel_rfl) (NoPanic.noFrame _) HSV.out ?_
          go_big_quiet_step (fail)
          refine wpQuiet_nil ?_
          refine Till.load 1 29 _ ⟨k7, 37, none⟩ (.slice (some ⟨g, 0, none⟩) xo.preds.length c8) rfl rfl rfl rfl (by kernel_rfl) (NoPanic.noFrame _) HSV.out (fun w' hw' => by rw [hw']; exact run_loadVar_one Tryd.underlying29 rfl HC37.out) ?_
          go_simp
          refine Till.pure 2 rfl rfl (by kernel_rfl) (NoPanic.noFrame _) HSV.out ?_
          go_big_quiet_step (fail)
          refine wpQuiet_nil ?_
          refine Till.pure 3 rfl rfl (by kernel_rfl) (NoPanic.noFrame _) HSV.out ?_
          go_big_quiet_step (fail)
          refine wpQuiet_nil ?_
          refine Till.pure 4 rfl rfl (by kernel_rfl) (NoPanic.noFrame _) HSV.out ?_
          go_big_quiet_step (fail)
          refine wpQuiet_nil ?_
          refine Till.load 5 5 _ ⟨g, n3 * 32, none⟩ (.int .u8 z) rfl rfl rfl rfl (by kernel_rfl) (NoPanic.noFrame _) HSV.out (fun w' hw' => by rw [hw']; exact run_loadVar_one Tryd.underlying5 rfl HC0.out) ?_
          go_simp
          refine Till.pure 6 rfl rfl (by kernel_rfl) (NoPanic.noFrame _) HSV.out ?_
          go_big_quiet_step (fail)
          refine wpQuiet_nil ?_
          refine Till.pure 7 rfl rfl (by kernel_rfl) (NoPanic.noFrame _) HSV.out ?_
          go_big_quiet_step (fail)
          refine wpQuiet_nil ?_
          refine Till.pure 8 rfl rfl (by kernel_rfl) (NoPanic.noFrame _) HSV.out ?_
          go_big_quiet_step (fail)
          refine wpQuiet_nil ?_
          refine Till.tail _ rfl rfl (by kernel_rfl) (by kernel_rfl) ?_
          have hc0 := HC0.out
          have hf0 : wV.frozen? ⟨g, n3 * 32, none⟩ = false := by rw [HWV.out]; exact HFZ.out
          go_wp2
          refine NoPanic.normal ?_
          clear hc0 hf0
          rw [HWV.out]
          go_wp2
          go_roundw
          case rel => exact ⟨n3 + 1, by omega, by go_num, Lib.hid (HPr.out.row (r := g) (((Keeps.refl _ _).setCell (S := fun k => k = g) rfl _).drew) (by omega) (fun h => by have := HB'lt.out g h; omega) (fun h => by have := HF'lt.out g h; omega)), Lib.hid ((Below.heap_setCell _ _ _ _ (fun e => by have e' : k7 = g := e; omega)).trans HR7r.out), Lib.hid (fun g' e => by rw [← (Addr.mk.inj (Option.some.inj e)).1]; exact HROW.out.set _ _)⟩
          case measure => simp [intOf] <;> omega
        · obtain rfl : n3 = xo.preds.length := by omega
          go_wp2_with fail
          go_roundw
          case rel => exact ⟨n + 1, O', W', O2', W2', T', BD', F', vo', vw', vn', vm', by omega, by go_num, hln4, HPr⟩
          case measure => simp [intOf] <;> omega
    · obtain rfl : n = L.length := by omega
      obtain ⟨wE, hwE⟩ : ∃ wE, wE = wr := ⟨_, rfl⟩
      subst hwE
      have HIN := Lib.hid HP.out.inv
      have HDE := Lib.hid HP.out.dag
      have hOl : O.length + W.length ≤ 30 := by omega
      have HBwE := Lib.hid (show Below w.heap.size w wE from HB4.out.trans (HP.out.keep.toBelow (by omega) (fun i hi h => by rcases h with rfl | rfl | rfl | rfl <;> omega)))
      obtain ⟨X, hX⟩ : ∃ X, X = nsort (O.map (·.n)) := ⟨_, rfl⟩
      obtain ⟨Y, hY⟩ : ∃ Y, Y = headsL ⟨O.map E3.ent, W.map E3.ent⟩ := ⟨_, rfl⟩
      obtain ⟨Z, hZ⟩ : ∃ Z, Z = nsort (W.map (·.n)) := ⟨_, rfl⟩
      have HCN := Lib.hid (show ∀ wz, Below wE.heap.size wE wz → Calls Tryd.prog 11 #[.pointer (some ⟨b, 0, none⟩)] wz fun e w' => ∃ v, e = .returned v ∧ Owns w' wz.heap.size 34 32 v X.length (pcs X) ∧ Below wz.heap.size wz w' from fun wz hb => by
        rw [hX]
        exact dnames_any b mo mw mt BD O W T wz (HDE.out.under hb) (by omega))
      have HCH := Lib.hid (show ∀ wz, Below wE.heap.size wE wz → Calls Tryd.prog 18 #[.pointer (some ⟨b, 0, none⟩)] wz fun e w' => ∃ v, e = .returned v ∧ Owns w' wz.heap.size 34 32 v Y.length (pcs Y) ∧ Below wz.heap.size wz w' from fun wz hb => by
        rw [hY]
        exact heads_any b mo mw mt BD O W T wz (HDE.out.under hb) (by omega))
      have HCW := Lib.hid (show ∀ wz, Below wE.heap.size wE wz → Calls Tryd.prog 15 #[.pointer (some ⟨b, 0, none⟩)] wz fun e w' => ∃ v, e = .returned v ∧ Owns w' wz.heap.size 34 32 v Z.length (pcs Z) ∧ Below wz.heap.size wz w' from fun wz hb => by
        rw [hZ]
        exact dwaits_any b mo mw mt BD O W T wz (HDE.out.under hb) (by omega))
      have HO32 := Lib.hid (show ∀ x ∈ O.map (·.n), x.length = 32 from fun x hx => by
        obtain ⟨e, he, rfl⟩ := List.mem_map.1 hx
        exact (HDE.out.okO e he).len)
      have HX32 := Lib.hid (show ∀ x ∈ X, x.length = 32 from fun x hx => by
        rw [hX] at hx
        exact HO32.out x (nsort_mem.1 hx))
      have HXH := Lib.hid (show ∀ x ∈ X, hasN (O.map E3.ent) x = true from fun x hx => by
        rw [hX] at hx
        exact (hasN_mem O x).2 (nsort_mem.1 hx))
      have HY32 := Lib.hid (show ∀ x ∈ Y, x.length = 32 from fun x hx => by
        rw [hY] at hx
        have h1 := (List.mem_filter.1 (nsort_mem.1 hx)).1
        rw [← names_ent] at h1
        exact HO32.out x h1)
      have HZ32 := Lib.hid (show ∀ x ∈ Z, x.length = 32 from fun x hx => by
        rw [hZ] at hx
        obtain ⟨e, he, rfl⟩ := List.mem_map.1 (nsort_mem.1 hx)
        exact (HDE.out.okW e he).len)
      have hXl : X.length ≤ 30 := by rw [hX, (nsort_perm _).length_eq, List.length_map]; omega
      have hYl : Y.length ≤ 30 := by
        have h1 : Y.length ≤ (namesOf (O.map E3.ent)).length := by
          rw [hY]
          unfold headsL
          rw [(nsort_perm _).length_eq]
          exact List.length_filter_le _ _
        rw [← names_ent, List.length_map] at h1
        omega
      have hZl : Z.length ≤ 30 := by rw [hZ, (nsort_perm _).length_eq, List.length_map]; omega
      clear hX hY hZ
      go_wp2_with (go_at_call 11; refine (HCN.out wE (Below.refl _ _)).mono ?_; rintro e w5 ⟨vX, rfl, hoX, hb5⟩; obtain ⟨pX, cX, rfl⟩ := hoX.form)
      have hz5 := hb5.size
      have HSX := Lib.hid hoX.srcOf
      have HB5 := Lib.hid hb5
      clear hb5 hoX
      go_loopw [65] (fun i wr => ∃ n2 : Nat, n2 ≤ X.length ∧ i = .int .i64 n2 ∧ Hid (Below w5.heap.size w5 wr)) (fun i _ => X.length - (intOf i).toNat)
      case atStart => exact ⟨0, by omega, rfl, Lib.hid (Below.refl _ _)⟩
      case round =>
        obtain ⟨n2, hn2, rfl, hbr⟩ := hrel
        have hzr2 := hbr.out.size
        by_cases hlt2 : n2 < X.length
        · have HSXr := Lib.hid (HSX.out.below hbr.out (Nat.le_refl _))
          have HDr := Lib.hid (HDE.out.under (HB5.out.trans (hbr.out.mono hz5)))
          obtain ⟨xx, gxx, oxx, hx1, hx2, hx3, hxp, hx4⟩ := pred_at HSXr.out.at_ HX32.out hlt2
          have hxpx := hxp
          clear hxp
          have hglx := bcs_at_lt hx4 hx3
          have HLx := Lib.hid hx3
          have HMx := Lib.hid (List.mem_of_getElem? hx1)
          have HEx := Lib.hid hx1
          have HTx := Lib.hid hx2
          have HZx := Lib.hid (show (fillB [] 32).size = (bcs xx).toArray.size by rw [show (bcs xx).toArray.size = (bcs xx).length from rfl, bcs_length, hx3]; rfl)
          have HCx := Lib.hid (show cellsAt wr gxx (oxx + n2 * 32) (bcs xx) from hx4)
          have HHx := Lib.hid (HXH.out xx HMx.out)
          clear hx1 hx2 hx3 hx4 hglx
          have HPXx := Lib.hid hxpx
          subst hxpx
          go_upto_region 22 with (first
            | (refine wpList_loadAgg _ rfl 34 _ rfl _ Tryd.underlying34 rfl gxx (oxx + n2 * 32) (by rfl) (bcs xx) (by rw [HI.out, bcs_length, HLx.out]) HCx.out ?_)
            | (refine wpList_allocZ _ rfl 34 rfl _ HZ.out ?_)
            | (refine wpList_storeNew _ wr rfl 34 _ _ rfl (fillB [] 32) rfl (by rfl) (bcs xx).toArray (by rfl) (by rw [HI.out, List.size_toArray, bcs_length, HLx.out]) HZx.out (by simpa using bcs_one xx) ?_))
          obtain ⟨w6x, hw6x⟩ : ∃ w6, w6 = wr.alloc (.cells (bcs xx).toArray 34) := ⟨_, rfl⟩
          rw [← hw6x]
          obtain ⟨kx, hkx⟩ : ∃ k, k = wr.heap.size := ⟨_, rfl⟩
          rw [← hkx]
          have hb6x : Below wr.heap.size wr w6x := by rw [hw6x]; exact (Below.refl _ wr).alloc (Nat.le_refl _) _
          have HKKx := Lib.hid (show cellsAt w6x kx 0 (bcs xx) by rw [hw6x, hkx]; simpa using cellsAt_new wr (bcs xx).toArray 34)
          have hz6x : kx < w6x.heap.size := by rw [hw6x, hkx]; simp
          have hkrx : wr.heap.size ≤ kx := by omega
          have HB6x := Lib.hid hb6x
          have HGx := Lib.hid (get_hit (HDr.out.under hb6x) HIN.out HLx.out HHx.out)
          have hz6rx := hb6x.size
          clear hw6x hkx hb6x
          go_upto_region 23 with (first
            | (refine wpList_loadAgg _ rfl 34 _ rfl _ Tryd.underlying34 rfl kx 0 (by rfl) (bcs xx) (by rw [HI.out, bcs_length, HLx.out]) HKKx.out ?_)
            | (go_at_call 12; refine HGx.out.mono ?_; rintro e w7x ⟨ox, px, cx, hthx, rfl, hownx, hb7x⟩)
            | (refine wpList_allocZ _ rfl 38 rfl _ HZO.out ?_)
            | (refine wpList_storeNew _ w7x rfl 38 _ _ rfl (zeroOp.cs none 0).toArray rfl (by rfl) (ox.cs px cx).toArray (by rfl) (by rw [opInfo, List.size_toArray, OpV.cs_length hthx.ok]) (show 38 = (ox.cs px cx).toArray.size by rw [List.size_toArray, OpV.cs_length hthx.ok]) (by simpa using OpV.cs_one ox px cx) ?_))
          have HTHx := Lib.hid hthx
          obtain ⟨w8x, hw8x⟩ : ∃ w8, w8 = w7x.alloc (.cells (ox.cs px cx).toArray 38) := ⟨_, rfl⟩
          rw [← hw8x]
          obtain ⟨qx, hqx⟩ : ∃ k, k = w7x.heap.size := ⟨_, rfl⟩
          rw [← hqx]
          have hb8x : Below w7x.heap.size w7x w8x := by rw [hw8x]; exact (Below.refl _ _).alloc (Nat.le_refl _) _
          have hz7x := hb7x.size
          have HRx := Lib.hid (show w8x.heap[qx]? = some (.cells (ox.cs px cx).toArray 38 (0, 0)) by rw [hw8x, hqx]; exact (MapKept.heap_alloc _ _).1)
          have HQx := Lib.hid (show cellsAt w8x qx 0 (ox.cs px cx) by rw [hw8x, hqx]; simpa using cellsAt_new w7x (ox.cs px cx).toArray 38)
          have hz8x : qx < w8x.heap.size := by rw [hw8x, hqx]; simp
          have hq7x : w7x.heap.size ≤ qx := by omega
          have hbbx : Below w6x.heap.size w6x w8x := hb7x.trans (hb8x.mono hz7x)
          have hz68x := hbbx.size
          have HB68x := Lib.hid hbbx
          have HBXx := Lib.hid (HB6x.out.trans (hbbx.mono HB6x.out.size))
          have HKx := Lib.hid (show cellsAt w8x kx 0 (bcs xx) from HKKx.out.of_block (hbbx.block _ hz6x))
          have HOWx := Lib.hid (hownx.under hb8x)
          have hoglx : ∀ g, (Value.slice px ox.preds.length cx).ownBlock = some g → w6x.heap.size ≤ g ∧ g < qx := fun g hg => ⟨(hownx.lt hg).1, Nat.lt_of_lt_of_le (hownx.lt hg).2 hq7x⟩
          have HOGx := Lib.hid hoglx
          clear hw8x hqx hb8x hbbx hb7x hownx hthx hoglx
          have hc37 := (OpV.cs_at HTHx.out.ok HQx.out).2.2
          obtain ⟨wP, hwP⟩ : ∃ wP, wP = wr := ⟨_, rfl⟩
          subst hwP
          go_wp2_with fail
          clear hc37
          have HPLx := Lib.hid HOWx.out.place
          have hpl := HTHx.out.ok.len
          have HGGx := Lib.hid (show ∀ g, px = some ⟨g, 0, none⟩ → w6x.heap.size ≤ g ∧ g < qx from fun g e => HOGx.out g (by rw [e]; rfl))
          go_loopw [78] (fun i wr => ∃ n3 : Nat, n3 ≤ ox.preds.length ∧ i = .int .i64 n3 ∧ Hid (Below w6x.heap.size w6x wr) ∧ Hid (wr.heap[qx]? = some (.cells (ox.cs px cx).toArray 38 (0, 0))) ∧ Hid (∀ g, px = some ⟨g, 0, none⟩ → ByteRow wr g ox.preds.length)) (fun i _ => ox.preds.length - (intOf i).toNat)
          case atStart => exact ⟨0, by omega, rfl, HB68x, HRx, Lib.hid (ByteRow.of_src HOWx.out HTHx.out.ok.ids)⟩
          case round =>
            obtain ⟨n3, hn3, rfl, hbq, HRr, hrow⟩ := hrel
            by_cases hlt3 : n3 < ox.preds.length
            · obtain ⟨g, rfl⟩ : ∃ g, px = some ⟨g, 0, none⟩ := HPLx.out.elim (fun h => absurd h (by omega)) id
              have HROW := Lib.hid (hrow.out g rfl)
              obtain ⟨z, hz0⟩ := HROW.out.cell hlt3
              have HCZ := Lib.hid hz0
              have HFZ := Lib.hid (HROW.out.free (n3 * 32))
              have hg8 := HGGx.out g rfl
              have hlti : (n3 : Int) < (ox.preds.length : Int) := by omega
              clear hz0
              go_upto_region 26 with fail
              refine wp_region_noPanic ?_
              refine wp_region_till 9 (fun w' => w' = wr.drew) (by kernel_rfl) (by kernel_rfl) ?_
              obtain ⟨wV, hwV⟩ : ∃ wV, wV = wr.drew := ⟨_, rfl⟩
              have HWV := Lib.hid hwV
              rw [← hwV]
              have HSV := Lib.hid (rfl : wV = wV)
              clear hwV
              go_simp
              have HC37 := Lib.hid (show wV.cell? ⟨qx, 37, none⟩ = some (.slice (some ⟨g, 0, none⟩) ox.preds.length cx) by rw [HWV.out]; exact (OpV.cs_at HTHx.out.ok (show cellsAt wr qx 0 (ox.cs (some ⟨g, 0, none⟩) cx) from fun j u hj => by rw [cell_of_row _ _ _ _ _ _ HRr.out, Nat.zero_add]; simpa using hj)).2.2)
              have HC0 := Lib.hid (show wV.cell? ⟨g, n3 * 32, none⟩ = some (.int .u8 z) by rw [HWV.out]; exact HCZ.out)
              refine Till.pure 0 rfl rfl (by kernel_rfl) (NoPanic.noFrame _) HSV.out ?_
              go_big_quiet_step (fail)
              refine wpQuiet_nil ?_
              refine Till.load 1 29 _ ⟨qx, 37, none⟩ (.slice (some ⟨g, 0, none⟩) ox.preds.length cx) rfl rfl rfl rfl (by kernel_rfl) (NoPanic.noFrame _) HSV.out (fun w' hw' => by rw [hw']; exact run_loadVar_one Tryd.underlying29 rfl HC37.out) ?_
              go_simp
              refine Till.pure 2 rfl rfl (by kernel_rfl) (NoPanic.noFrame _) HSV.out ?_
              go_big_quiet_step (fail)
              refine wpQuiet_nil ?_
              refine Till.pure 3 rfl rfl (by kernel_rfl) (NoPanic.noFrame _) HSV.out ?_
              go_big_quiet_step (fail)
              refine wpQuiet_nil ?_
              refine Till.pure 4 rfl rfl (by kernel_rfl) (NoPanic.noFrame _) HSV.out ?_
              go_big_quiet_step (fail)
              refine wpQuiet_nil ?_
              refine Till.load 5 5 _ ⟨g, n3 * 32, none⟩ (.int .u8 z) rfl rfl rfl rfl (by kernel_rfl) (NoPanic.noFrame _) HSV.out (fun w' hw' => by rw [hw']; exact run_loadVar_one Tryd.underlying5 rfl HC0.out) ?_
              go_simp
              refine Till.pure 6 rfl rfl (by kernel_rfl) (NoPanic.noFrame _) HSV.out ?_
              go_big_quiet_step (fail)
              refine wpQuiet_nil ?_
              refine Till.pure 7 rfl rfl (by kernel_rfl) (NoPanic.noFrame _) HSV.out ?_
              go_big_quiet_step (fail)
              refine wpQuiet_nil ?_
              refine Till.pure 8 rfl rfl (by kernel_rfl) (NoPanic.noFrame _) HSV.out ?_
              go_big_quiet_step (fail)
              refine wpQuiet_nil ?_
              refine Till.tail _ rfl rfl (by kernel_rfl) (by kernel_rfl) ?_
              have hc0 := HC0.out
              have hf0 : wV.frozen? ⟨g, n3 * 32, none⟩ = false := by rw [HWV.out]; exact HFZ.out
              go_wp2
              refine NoPanic.normal ?_
              clear hc0 hf0
              rw [HWV.out]
              go_wp2
              go_roundw
              case rel => exact ⟨n3 + 1, by omega, by go_num, Lib.hid ((hbq.out.setCell (by show w6x.heap.size ≤ g; omega) _).drew), Lib.hid ((Below.heap_setCell _ _ _ _ (fun e => by have e' : qx = g := e; omega)).trans HRr.out), Lib.hid (fun g' e => by rw [← (Addr.mk.inj (Option.some.inj e)).1]; exact HROW.out.set _ _)⟩
              case measure => simp [intOf] <;> omega
            · obtain rfl : n3 = ox.preds.length := by omega
              have HB5n := Lib.hid (hbr.out.trans ((HB6x.out.trans (hbq.out.mono hz6rx)).mono hzr2))
              go_wp2_with fail
              go_roundw
              case rel => exact ⟨n2 + 1, by omega, by go_num, HB5n⟩
              case measure => simp [intOf] <;> omega
        · obtain rfl : n2 = X.length := by omega
          obtain ⟨wF, hwF⟩ : ∃ wF, wF = wr := ⟨_, rfl⟩
          subst hwF
          have HBF := Lib.hid (HB5.out.trans (hbr.out.mono hz5))
          have hzF := HBF.out.size
          go_wp2_with (first
            | (go_at_call 11; refine (HCN.out wF HBF.out).mono ?_; rintro e w13 ⟨v1, rfl, ho1, hb13⟩; obtain ⟨p1, c1, rfl⟩ := ho1.form; have HO1 := Lib.hid ho1; have HB13 := Lib.hid hb13; clear ho1 hb13)
            | (go_at_call 18; refine (HCH.out w13 (HBF.out.trans (HB13.out.mono hzF))).mono ?_; rintro e w14 ⟨v2, rfl, ho2, hb14⟩; obtain ⟨p2, c2, rfl⟩ := ho2.form; have HO2 := Lib.hid ho2; have HB14 := Lib.hid hb14; clear ho2 hb14; have hz13 := HB13.out.size)
            | (go_at_call 15; refine (HCW.out w14 (HBF.out.trans ((HB13.out.trans (HB14.out.mono hz13)).mono hzF))).mono ?_; rintro e w15 ⟨v3, rfl, ho3, hb15⟩; obtain ⟨p3, c3, rfl⟩ := ho3.form; have HO3 := Lib.hid ho3; have HB15 := Lib.hid hb15; clear ho3 hb15; have hz14 := HB14.out.size))
          have hz15 := HB15.out.size
          have HRW := Lib.hid (show Rows3 w15 p1 p2 p3 X.length Y.length Z.length from ⟨fun g e => by
              have h := ByteRow.of_src HO1.out HX32.out g e
              exact h.of_block ((HB14.out.trans (HB15.out.mono hz14)).block g h.lt), fun g e => by
              have h := ByteRow.of_src HO2.out HY32.out g e
              exact h.of_block (HB15.out.block g h.lt), fun g e => ByteRow.of_src HO3.out HZ32.out g e⟩)
          have HB15F := Lib.hid (show Below wF.heap.size wF w15 from HB13.out.trans ((HB14.out.trans (HB15.out.mono hz14)).mono hz13))
          go_loopw [99] (fun i wr => ∃ n : Nat, n ≤ 3 ∧ i = .int .i64 n ∧ Hid (Below wF.heap.size wF wr) ∧ Hid (Rows3 wr p1 p2 p3 X.length Y.length Z.length)) (fun i _ => 3 - (intOf i).toNat)
          case atStart => exact ⟨0, by omega, rfl, HB15F, HRW⟩
          case round =>
            obtain ⟨n, hn, rfl, HBn, HRn⟩ := hrel
            by_cases hlt5 : n < 3
            · obtain ⟨wQ, hwQ⟩ : ∃ wQ, wQ = wr := ⟨_, rfl⟩
              subst hwQ
              have hc3 : n = 0 ∨ n = 1 ∨ n = 2 := by omega
              obtain ⟨pN, XN, cN, hix, hXNl, hplN, hgeN, hrowN⟩ : ∃ (pN : Option Addr) (XN : List Nm) (cN : Nat), (∀ wz, (Instr.index 50 (.agg #[.slice p1 X.length c1, .slice p2 Y.length c2, .slice p3 Z.length c3]) (.int .i64 (n : Int))).run Tryd.prog wz = .ok (.slice pN XN.length cN) wz) ∧ XN.length ≤ 30 ∧
                  (XN.length = 0 ∨ ∃ g, pN = some ⟨g, 0, none⟩) ∧ (∀ g, pN = some ⟨g, 0, none⟩ → wF.heap.size ≤ g) ∧ (∀ wz, Rows3 wz p1 p2 p3 X.length Y.length Z.length → ∀ g, pN = some ⟨g, 0, none⟩ → ByteRow wz g XN.length) := by
                rcases hc3 with rfl | rfl | rfl
                · exact ⟨p1, X, c1, index3_0 _ _ _, hXl, HO1.out.place, fun g e => Nat.le_trans (by omega) (HO1.out.at e).1, fun wz h => h.1⟩
                · exact ⟨p2, Y, c2, index3_1 _ _ _, hYl, HO2.out.place, fun g e => Nat.le_trans (by omega) (HO2.out.at e).1, fun wz h => h.2.1⟩
                · exact ⟨p3, Z, c3, index3_2 _ _ _, hZl, HO3.out.place, fun g e => Nat.le_trans (by omega) (HO3.out.at e).1, fun wz h => h.2.2⟩
              have HPLN := Lib.hid hplN
              have HGEN := Lib.hid hgeN
              have HROWN := Lib.hid hrowN
              clear hc3 hplN hgeN hrowN
              have hd5 : decide ((n : Int) < 3) = true := decide_eq_true (by omega)
              go_wp2_with fail
              clear hix
              go_loopw [104] (fun i wr => ∃ n3 : Nat, n3 ≤ XN.length ∧ i = .int .i64 n3 ∧ Hid (Below wF.heap.size wF wr) ∧ Hid (Rows3 wr p1 p2 p3 X.length Y.length Z.length)) (fun i _ => XN.length - (intOf i).toNat)
              case atStart => exact ⟨0, by omega, rfl, HBn, HRn⟩
              case round =>
                obtain ⟨n3, hn3, rfl, HBq, HRq⟩ := hrel
                by_cases hlt6 : n3 < XN.length
                · obtain ⟨g, hpg⟩ : ∃ g, pN = some ⟨g, 0, none⟩ := HPLN.out.elim (fun h => absurd h (by omega)) id
                  have HROW := Lib.hid (HROWN.out _ HRq.out g hpg)
                  have hgF := HGEN.out g hpg
                  subst hpg
                  obtain ⟨z, hz0⟩ := HROW.out.cell hlt6
                  have HCZ := Lib.hid hz0
                  have HFZ := Lib.hid (HROW.out.free (n3 * 32))
                  have hlti : (n3 : Int) < (XN.length : Int) := by omega
                  clear hz0
                  go_upto_region 35 with fail
                  refine wp_region_noPanic ?_
                  refine wp_region_till 8 (fun w' => w' = wr.drew) (by kernel_rfl) (by kernel_rfl) ?_
                  obtain ⟨wV, hwV⟩ : ∃ wV, wV = wr.drew := ⟨_, rfl⟩
                  have HWV := Lib.hid hwV
                  rw [← hwV]
                  have HSV := Lib.hid (rfl : wV = wV)
                  clear hwV
                  go_simp
                  have HC0 := Lib.hid (show wV.cell? ⟨g, n3 * 32, none⟩ = some (.int .u8 z) by rw [HWV.out]; exact HCZ.out)
                  refine Till.pure 0 rfl rfl (by kernel_rfl) (NoPanic.noFrame _) HSV.out ?_
                  go_big_quiet_step (fail)
                  refine wpQuiet_nil ?_
                  refine Till.pure 1 rfl rfl (by kernel_rfl) (NoPanic.noFrame _) HSV.out ?_
                  go_big_quiet_step (fail)
                  refine wpQuiet_nil ?_
                  refine Till.pure 2 rfl rfl (by kernel_rfl) (NoPanic.noFrame _) HSV.out ?_
                  go_big_quiet_step (fail)
                  refine wpQuiet_nil ?_
                  refine Till.pure 3 rfl rfl (by kernel_rfl) (NoPanic.noFrame _) HSV.out ?_
                  go_big_quiet_step (fail)
                  refine wpQuiet_nil ?_
                  refine Till.load 4 5 _ ⟨g, n3 * 32, none⟩ (.int .u8 z) rfl rfl rfl rfl (by kernel_rfl) (NoPanic.noFrame _) HSV.out (fun w' hw' => by rw [hw']; exact run_loadVar_one Tryd.underlying5 rfl HC0.out) ?_
                  go_simp
                  refine Till.pure 5 rfl rfl (by kernel_rfl) (NoPanic.noFrame _) HSV.out ?_
                  go_big_quiet_step (fail)
                  refine wpQuiet_nil ?_
                  refine Till.pure 6 rfl rfl (by kernel_rfl) (NoPanic.noFrame _) HSV.out ?_
                  go_big_quiet_step (fail)
                  refine wpQuiet_nil ?_
                  refine Till.pure 7 rfl rfl (by kernel_rfl) (NoPanic.noFrame _) HSV.out ?_
                  go_big_quiet_step (fail)
                  refine wpQuiet_nil ?_
                  refine Till.tail _ rfl rfl (by kernel_rfl) (by kernel_rfl) ?_
                  have hc0 := HC0.out
                  have hf0 : wV.frozen? ⟨g, n3 * 32, none⟩ = false := by rw [HWV.out]; exact HFZ.out
                  go_wp2
                  refine NoPanic.normal ?_
                  clear hc0 hf0
                  rw [HWV.out]
                  go_wp2
                  go_roundw
                  case rel => exact ⟨n3 + 1, by omega, by go_num, Lib.hid ((HBq.out.setCell (by show wF.heap.size ≤ g; exact hgF) _).drew), Lib.hid (HRq.out.put HROW.out _ _)⟩
                  case measure => simp [intOf] <;> omega
                · obtain rfl : n3 = XN.length := by omega
                  go_wp2_with fail
                  go_roundw
                  case rel => exact ⟨n + 1, by omega, by go_num, HBq, HRq⟩
                  case measure => simp [intOf] <;> omega
            · obtain rfl : n = 3 := by omega
              have HBE := Lib.hid (HBF.out.trans (HBn.out.mono hzF))
              have HSM := Lib.hid (dsame_any b mo mw mt b2 BD F _ O W O2 W2 T vo vw vn vm wr (HDE.out.under HBE.out) HIN.out (HP.out.ref.under HBE.out) HP.out.e1 HP.out.e2 (by omega) (by omega))
              go_wp2_with (go_at_call 19; refine HSM.out.mono ?_; rintro e wz ⟨rfl, hbz⟩)
              go_ret
              exact ⟨rfl, HBwE.out.trans ((HBE.out.trans (hbz.mono HBE.out.size)).mono HBwE.out.size)⟩
end Go.Proofs.YtfoifdhcelcgiaaDoor
