/-
  (*dag.Set).Past: names of what stands ahead, in their order.
-/
import Derived.Test.YtfoifdhcelcgiaaGreatDoorPastP
namespace Go.Proofs.YtfoifdhcelcgiaaGreatDoor
open Go Go.RowKit

set_option maxRecDepth 100000 in
set_option maxHeartbeats 16000000 in
theorem past_any (b mo mw mt : Nat) (B : Nat → Prop) (O W : List E3) (T : List (Nm × Nat)) (nm : Nm) (hnm : nm.length = 32) (w : World) (h : DagSet w b mo mw mt B O W T) (hI : DInv ⟨O.map E3.ent, W.map E3.ent⟩) (hL : O.length ≤ 1000) :
    Calls Tryz.prog 11 #[.pointer (some ⟨b, 0, none⟩), idv nm] w fun e w' => ∃ v S, e = .returned v ∧ (∀ x ∈ S, Anc (O.map E3.ent) nm x) ∧ S.Nodup ∧ S.length ≤ 1000 ∧ Owns w' w.heap.size 31 32 v (nsort S).length (pcs (nsort S)) ∧ Below w.heap.size w w' := by
  have hmm := @run_makeMap Tryz.prog
  obtain ⟨i0, hi, hz0, hz1, hz2⟩ := info_parts idInfo3
  obtain ⟨hz, hid⟩ := info_two idInfo
  have HZ := Lib.hid hz
  have HI := Lib.hid hid
  have HNM := Lib.hid hnm
  have HD := Lib.hid h
  have HIN := Lib.hid hI
  have hblt := h.lt
  obtain ⟨w2, hw2⟩ : ∃ w2, w2 = (w.alloc (.cells (bcs nm).toArray 31)).alloc (.map #[] 0) := ⟨_, rfl⟩
  have hb2 : Below w.heap.size w w2 := by rw [hw2]; exact ((Below.refl _ w).alloc (Nat.le_refl _) _).alloc (by simp) _
  have HK2 := Lib.hid (show cellsAt w2 w.heap.size 0 (bcs nm) by
    rw [hw2]
    exact cellsAt.of_block (by simpa using cellsAt_new w (bcs nm).toArray 31) ((MapKept.heap_alloc _ _).2 _ (by simp)))
  have HM2 := Lib.hid (show hasMap Tryz.prog 31 w2 (w.heap.size + 1) (([] : List Nm).map bkv) by
    rw [hw2]
    simpa using hasMap_made Tryz.prog 31 (w.alloc (.cells (bcs nm).toArray 31)))
  have hz2 : w2.heap.size = w.heap.size + 2 := by rw [hw2]; simp
  have HB2 := Lib.hid hb2
  have HD2 := Lib.hid (h.under hb2)
  clear h hnm hI hb2 hz hid
  go_enter Tryz.func11, Tryz.ntmps11
  go_upto_region 4 with (first
    | (refine wpList_boxAgg _ rfl 31 _ rfl (bcs nm).toArray (by rfl) ?_))
  clear hmm
  rw [show (w.alloc (.cells (bcs nm).toArray 31)).alloc (.map #[] 0) = w2 from hw2.symm]
  try rw [World.size_alloc]
  clear hw2
  obtain ⟨P0, hP0⟩ : ∃ P0, P0 = predsAt (O.map E3.ent) nm := ⟨_, rfl⟩
  obtain ⟨V0, hV0⟩ : ∃ V, V = valAt O nm := ⟨_, rfl⟩
  obtain ⟨p0, c0, hv0, hs0⟩ := valAt_preds HD2.out.okO nm
  obtain ⟨hp32, hpl⟩ := predsAt_len HD2.out.okO nm
  rw [← hP0] at hv0 hs0 hp32 hpl
  rw [← hV0] at hv0
  have HP0 := Lib.hid hP0
  have HV0 := Lib.hid hv0
  have HS0 := Lib.hid hs0
  have HP32 := Lib.hid hp32
  have HLK := Lib.hid (show ∀ w', Below w2.heap.size w2 w' → (Instr.lookup 78 (.map (some mo)) (idv nm) false).run Tryz.prog w' = .ok (.agg V0.toArray) w' from fun w' hw' => by
    rw [hV0]
    exact (HD2.out.under hw').ops.look3 HNM.out false)
  clear hP0 hV0 hv0 hs0 hp32
  obtain ⟨NV, hNVa, hNVb⟩ : ∃ n, w2.heap.size ≤ n ∧ n ≤ w2.heap.size := ⟨_, Nat.le_refl _, Nat.le_refl _⟩
  refine wp_region_noPanic ?_
  refine wp_region_till 8 (fun w' => Below NV w2 w') (by kernel_rfl) (by kernel_rfl) ?_
  obtain ⟨wV, hwV⟩ : ∃ wV, wV = w2.drew := ⟨_, rfl⟩
  have hSwV : Below NV w2 wV := by rw [hwV]; exact (Below.refl NV w2).drew
  rw [← hwV]
  have HSV := Lib.hid hSwV
  have hzwV : w2.heap.size ≤ wV.heap.size := by rw [hwV]; exact Nat.le_refl _
  clear hwV hSwV
  go_simp
  refine Till.pure 0 rfl rfl (by kernel_rfl) (NoPanic.noFrame _) HSV.out ?_
  go_big_quiet_step (fail)
  refine wpQuiet_nil ?_
  refine Till.pure 1 rfl rfl (by kernel_rfl) (NoPanic.noFrame _) HSV.out ?_
  go_big_quiet_step (fail)
  refine wpQuiet_nil ?_
  refine Till.pure 2 rfl rfl (by kernel_rfl) (NoPanic.noFrame _) HSV.out ?_
  go_big_quiet_step (fail)
  refine wpQuiet_nil ?_
  refine Till.load 3 78 _ ⟨b, 0, none⟩ (.map (some mo)) rfl rfl rfl rfl (by kernel_rfl) (NoPanic.noFrame _) HSV.out (fun w' hw' => run_loadVar_one Tryz.underlying78 rfl (HD2.out.below hw' hNVa).c0) ?_
  go_simp
  refine Till.load 4 31 _ ⟨w.heap.size, 0, none⟩ (idv nm) rfl rfl rfl rfl (by kernel_rfl) (NoPanic.noFrame _) HSV.out (fun w' hw' => run_loadAgg Tryz.underlying31 rfl (by rw [HI.out, bcs_length, HNM.out]) (HK2.out.of_block (hw'.block _ (by omega)))) ?_
  go_simp
  refine Till.look 5 78 _ _ false (.map (some mo)) (idv nm) _ rfl rfl rfl (by rfl) (by rfl) (by kernel_rfl) (NoPanic.noFrame _) HSV.out (fun w' hw' => HLK.out w' (hw'.mono hNVa)) ?_
  go_simp
  refine Till.field 6 46 _ 3 (.agg V0.toArray) (.slice p0 P0.length c0) rfl rfl rfl (by rfl) (by kernel_rfl) (NoPanic.noFrame _) HSV.out (run_predsOf HV0.out) ?_
  go_simp
  have HCL := Lib.hid (sclone_any P0 HP32.out hpl p0 c0 wV (HS0.out.below HSV.out hNVa))
  refine Till.act 7 rfl rfl (by kernel_rfl) rfl ?_
  intro K hK
  go_wp2_with (go_at_call 42; refine HCL.out.mono ?_; rintro e wA ⟨vA, rfl, hoA, hbA⟩)
  have hzA := hbA.size
  have HOA := Lib.hid hoA
  clear hoA
  have hSA := HSV.out.trans (hbA.mono (by omega))
  refine hK _ _ hSA ?_
  clear hK K
  go_simp
  have HSA := Lib.hid hSA
  clear hSA hbA
  refine Till.tail _ rfl rfl (by kernel_rfl) (by kernel_rfl) ?_
  go_wp2
  refine NoPanic.normal ?_
  obtain ⟨ms, hms⟩ : ∃ k, k = w.heap.size + 1 := ⟨_, rfl⟩
  have HMA := Lib.hid (show hasMap Tryz.prog 31 wA ms (([] : List Nm).map bkv) by rw [hms]; exact HM2.out.of_block (HSA.out.block _ (by omega)))
  have hmsV : ms < wV.heap.size := by omega
  have HBA := Lib.hid (HB2.out.trans ((HSA.out.mono hNVa).mono (by omega)))
  have HOO := Lib.hid (OwnsO.of HOA.out (by omega))
  have hwms : w.heap.size ≤ ms := by omega
  rw [← hms]
  clear hms
  go_wp2
  go_loopw [6] (fun v wr => ∃ (R S : List Nm), wV.heap.size ≤ wr.heap.size ∧ S.length ≤ O.length ∧ R.length ≤ (S.length + 1) * 1048576 ∧ Hid (OwnsO wr wV.heap.size 31 32 v R.length (pcs R)) ∧ Hid (hasMap Tryz.prog 31 wr ms (S.map bkv)) ∧ Hid (∀ x ∈ R, Anc (O.map E3.ent) nm x) ∧ Hid (∀ x ∈ S, Anc (O.map E3.ent) nm x) ∧ Hid (∀ x ∈ R, x.length = 32) ∧ Hid (∀ x ∈ S, x.length = 32) ∧ Hid S.Nodup ∧ Hid (Below w.heap.size w wr)) (fun v wr => (1000 - mapLen wr ms) * 2000000 + sliceLen v)
  case atStart => exact ⟨P0, [], by omega, by simp, by simp; omega, HOO, HMA, Lib.hid (fun x hx => by rw [HP0.out] at hx; exact Anc.step hx), Lib.hid (by simp), HP32, Lib.hid (by simp), Lib.hid List.nodup_nil, HBA⟩
  case round =>
    obtain ⟨R, S, hzr, hSl, hRl, HOr, HMr, HRA, HSA', HR32, HS32, HND, HBr⟩ := hrel
    have hml := HMr.out.len
    obtain ⟨pR, cR, hpR⟩ := HOr.out.form
    subst hpR
    have HDr := Lib.hid (HD.out.under HBr.out)
    have HML := Lib.hid hml
    clear hml
    cases R with
    | nil =>
      have HSC := Lib.hid (bnames_any ms S HS32.out (wr.alloc (.cells #[.map (some ms)] 76)) wr.heap.size (by simp) (by omega) (by simp) (HMr.out.of_block ((MapKept.heap_alloc _ _).2 _ HMr.out.lt)))
      go_wp2_with (first
        | (go_at_call 44; refine (keysfnB_any ms wr).mono ?_; rintro e w1 ⟨rfl, rfl⟩)
        | (go_at_call 43; refine HSC.out.mono ?_; rintro e w' ⟨v, rfl, ho, hb⟩))
      go_ret
      exact ⟨v, S, rfl, HSA'.out, HND.out, by omega, ho.down (by rw [World.size_alloc]; have := HBr.out.size; omega), HBr.out.trans (((Below.refl _ wr).alloc (Nat.le_refl _) _ |>.trans (hb.mono (by rw [World.size_alloc]; omega))).mono HBr.out.size)⟩
    | cons x R' =>
      have hx32 := HR32.out x (by simp)
      obtain ⟨y, g, off, hy1, _, hy3, hyp, hy4⟩ := pred_at HOr.out.src.at_ HR32.out (show 0 < (x :: R').length by simp)
      obtain rfl : x = y := Option.some.inj hy1
      subst hyp
      have hg := bcs_at_lt hy4 hy3
      have HX32 := Lib.hid hx32
      have HCx := Lib.hid (show cellsAt wr g off (bcs x) by simpa using hy4)
      have HXA := Lib.hid (HRA.out x (by simp))
      have hls := HMr.out.lookB hx32
      obtain ⟨n1, hn1⟩ : ∃ n1, n1 = R'.length := ⟨_, rfl⟩
      have HO1 := Lib.hid (show OwnsO wr wV.heap.size 31 32 (.slice (some ⟨g, off, none⟩) (n1 + 1) cR) (n1 + 1) (pcs (x :: R')) by rw [hn1]; exact HOr.out)
      have hgrow : wV.heap.size ≤ g := (HO1.out.row_lt rfl).1
      have HN1 := Lib.hid hn1
      have HDROP := Lib.hid (show (pcs (x :: R')).drop 32 = pcs R' by
        have h1 : (bcs x).length = 32 := by rw [bcs_length, hx32]
        simp only [pcs, List.flatMap_cons]
        rw [← h1, List.drop_left])
      have hRl1 : n1 + 1 ≤ (S.length + 1) * 1048576 := by rw [hn1]; simpa using hRl
      rw [show (x :: R').length = n1 + 1 by rw [hn1]; rfl]
      have hgt : decide (((n1 + 1 : Nat) : Int) > 0) = true := decide_eq_true (by omega)
      have hcR := HO1.out.bounds.1
      clear hn1 hRl hy1 hy3 hy4 HOr
      go_upto_region 7 with fail
      clear hgt
      by_cases hin : x ∈ S
      · rw [decide_eq_true hin] at hls
        have HLS := Lib.hid hls
        clear hls hin
        go_upto_region 6 with (first
      | (refine wpList_loadAgg _ rfl 31 _ rfl _ Tryz.underlying31 rfl g off (by rfl) (bcs x) (by rw [HI.out, bcs_length, HX32.out]) HCx.out ?_)
      | (refine wpList_lookR rfl 76 _ _ false rfl (.map (some ms)) (idv x) (.bool true) (by rfl) (by rfl) HLS.out ?_))
        go_wp2_with (refine wpList_lo rfl 28 _ _ rfl 31 32 Tryz.underlying28 HI.out (some ⟨g, off, none⟩) (n1 + 1) cR 1 .i64 (by rfl) (by rfl) (by omega) ?_)
        have HT1 := Lib.hid (show OwnsO wr wV.heap.size 31 32 (.slice (loP (some ⟨g, off, none⟩) cR 1 32) R'.length (cR - 1)) R'.length (pcs R') by
          have h := HO1.out.tail.1
          rw [HDROP.out] at h
          rw [← HN1.out]
          exact h)
        go_roundw
        case rel => exact ⟨R', S, hzr, hSl, by rw [← HN1.out]; omega, by first | exact (by rw [HN1.out]; exact HT1) | exact HT1, HMr, Lib.hid (fun z hz => HRA.out z (by simp [hz])), HSA', Lib.hid (fun z hz => HR32.out z (by simp [hz])), HS32, HND, HBr⟩
        case measure => simp [sliceLen] <;> omega
      · rw [decide_eq_false hin] at hls
        have HLS := Lib.hid hls
        have HNIN := Lib.hid hin
        clear hls hin
        go_upto_region 8 with (first
      | (refine wpList_loadAgg _ rfl 31 _ rfl _ Tryz.underlying31 rfl g off (by rfl) (bcs x) (by rw [HI.out, bcs_length, HX32.out]) HCx.out ?_)
      | (refine wpList_lookR rfl 76 _ _ false rfl (.map (some ms)) (idv x) (.bool false) (by rfl) (by rfl) HLS.out ?_))
        obtain ⟨kl, hkl⟩ := idKeyOf x HX32.out
        have HKL := Lib.hid hkl
        clear hkl
        go_upto_region 9 with (first
          | (refine wpList_loadAgg _ rfl 31 _ rfl _ Tryz.underlying31 rfl g off (by rfl) (bcs x) (by rw [HI.out, bcs_length, HX32.out]) HCx.out ?_)
          | (at_mapUpdate; refine wpList_store _ rfl _ _ _ 76 rfl 31 4 idLaw Tryz.underlying76 ms (S.map bkv) (by rfl) HMr.out (idv x) (.bool true) kl (by rfl) (by rfl) HKL.out ?_; intro w9 hg9 hs9 hst9))
        have hz9 := hg9.size
        have HM9 := Lib.hid (show hasMap Tryz.prog 31 w9 ms ((x :: S).map bkv) from hst9 _ (.inr ⟨List.Perm.refl _, fun v hv => by
          obtain ⟨z, hz, e⟩ := List.mem_map.1 hv
          have e1 : z = x := idv_inj (Prod.mk.inj e).1
          subst e1
          exact HNIN.out hz⟩))
        have HO9 := Lib.hid (HO1.out.keep (w' := w9) (fun q hq => hg9.block q (HO1.out.row_lt hq).2 (fun e => by have e1 : q = ms := Option.some.inj e; have := (HO1.out.row_lt hq).1; omega)))
        have HC9 := Lib.hid (HCx.out.of_block (hg9.block g hg (fun e => by have e1 : g = ms := Option.some.inj e; omega)))
        have HB9 := Lib.hid (HBr.out.grown hg9 HBr.out.size (fun k e => by have e1 : ms = k := Option.some.inj e; omega))
        have HD9 := Lib.hid (HD.out.under HB9.out)
        have HND2 := Lib.hid (show (x :: S).Nodup from List.nodup_cons.2 ⟨HNIN.out, HND.out⟩)
        have HSA2 := Lib.hid (show ∀ z ∈ x :: S, Anc (O.map E3.ent) nm z from fun z hz => by
          rcases List.mem_cons.1 hz with rfl | hz
          · exact HXA.out
          · exact HSA'.out z hz)
        have hS1 : S.length + 1 ≤ O.length := by
          have := seen_len (O := O) HND2.out (fun z hz => HIN.out.anc_in (HSA2.out z hz))
          simpa using this
        clear hg9 hs9 hst9
        obtain ⟨P1, hP1⟩ : ∃ P1, P1 = predsAt (O.map E3.ent) x := ⟨_, rfl⟩
        obtain ⟨V1, hV1⟩ : ∃ V, V = valAt O x := ⟨_, rfl⟩
        obtain ⟨p1, c1, hv1, hs1⟩ := valAt_preds HD9.out.okO x
        obtain ⟨hp132, hpl1⟩ := predsAt_len HD9.out.okO x
        rw [← hP1] at hv1 hs1 hp132 hpl1
        rw [← hV1] at hv1
        have HP1 := Lib.hid hP1
        have HV1 := Lib.hid hv1
        have HS1 := Lib.hid hs1
        have HP132 := Lib.hid hp132
        have HPL1 := Lib.hid (show (pcs P1).length = P1.length * 32 by rw [pcs_length hp132, Nat.mul_comm])
        have HLK1 := Lib.hid (show ∀ w', Below w9.heap.size w9 w' → (Instr.lookup 78 (.map (some mo)) (idv x) false).run Tryz.prog w' = .ok (.agg V1.toArray) w' from fun w' hw' => by
          rw [hV1]
          exact (HD9.out.under hw').ops.look3 HX32.out false)
        clear hP1 hV1 hv1 hs1 hp132
        obtain ⟨NQ, hNQa, hNQb⟩ : ∃ n, w9.heap.size ≤ n ∧ n ≤ w9.heap.size := ⟨_, Nat.le_refl _, Nat.le_refl _⟩
        refine wp_region_noPanic ?_
        refine wp_region_till 10 (fun w' => Below NQ w9 w') (by kernel_rfl) (by kernel_rfl) ?_
        obtain ⟨wQ, hwQ⟩ : ∃ wV, wV = w9.drew := ⟨_, rfl⟩
        have hSwQ : Below NQ w9 wQ := by rw [hwQ]; exact (Below.refl NQ w9).drew
        rw [← hwQ]
        have HSQ := Lib.hid hSwQ
        have hzwQ : w9.heap.size ≤ wQ.heap.size := by rw [hwQ]; exact Nat.le_refl _
        clear hwQ hSwQ
        go_simp
        refine Till.pure 0 rfl rfl (by kernel_rfl) (NoPanic.noFrame _) HSQ.out ?_
        go_big_quiet_step (fail)
        refine wpQuiet_nil ?_
        refine Till.pure 1 rfl rfl (by kernel_rfl) (NoPanic.noFrame _) HSQ.out ?_
        go_big_quiet_step (fail)
        refine wpQuiet_nil ?_
        refine Till.pure 2 rfl rfl (by kernel_rfl) (NoPanic.noFrame _) HSQ.out ?_
        go_big_quiet_step (fail)
        refine wpQuiet_nil ?_
        refine Till.pure 3 rfl rfl (by kernel_rfl) (NoPanic.noFrame _) HSQ.out ?_
        go_big_quiet_step (fail)
        refine wpQuiet_nil ?_
        refine Till.load 4 78 _ ⟨b, 0, none⟩ (.map (some mo)) rfl rfl rfl rfl (by kernel_rfl) (NoPanic.noFrame _) HSQ.out (fun w' hw' => run_loadVar_one Tryz.underlying78 rfl (HD9.out.below hw' hNQa).c0) ?_
        go_simp
        refine Till.pure 5 rfl rfl (by kernel_rfl) (NoPanic.noFrame _) HSQ.out ?_
        go_big_quiet_step (fail)
        refine wpQuiet_nil ?_
        refine Till.pure 6 rfl rfl (by kernel_rfl) (NoPanic.noFrame _) HSQ.out ?_
        go_big_quiet_step (fail)
        refine wpQuiet_nil ?_
        refine Till.load 7 31 _ ⟨g, off, none⟩ (idv x) rfl rfl rfl rfl (by kernel_rfl) (NoPanic.noFrame _) HSQ.out (fun w' hw' => run_loadAgg Tryz.underlying31 rfl (by rw [HI.out, bcs_length, HX32.out]) (HC9.out.of_block (hw'.block _ (by omega)))) ?_
        go_simp
        refine Till.look 8 78 _ _ false (.map (some mo)) (idv x) _ rfl rfl rfl (by rfl) (by rfl) (by kernel_rfl) (NoPanic.noFrame _) HSQ.out (fun w' hw' => HLK1.out w' (hw'.mono hNQa)) ?_
        go_simp
        refine Till.field 9 46 _ 3 (.agg V1.toArray) (.slice p1 P1.length c1) rfl rfl rfl (by rfl) (by kernel_rfl) (NoPanic.noFrame _) HSQ.out (run_predsOf HV1.out) ?_
        go_simp
        refine Till.tail _ rfl rfl (by kernel_rfl) (by kernel_rfl) ?_
        have HOQ := Lib.hid (HO9.out.under (HSQ.out.mono hNQa))
        have HS1Q := Lib.hid (HS1.out.below HSQ.out hNQa)
        refine wpList_append_O rfl _ _ 28 rfl wV.heap.size 31 i0 _ 32 32 Tryz.underlying28 hi hz0 hz1 (by first | exact hz2 | assumption) (by rfl) (by omega) (.slice (some ⟨g, off, none⟩) (n1 + 1) cR) (n1 + 1) (pcs (x :: R')) (by rfl) HOQ.out p1 P1.length c1 (pcs P1) (by rfl) HPL1.out HS1Q.out (pcs_one P1) (by unfold maxLen; omega) (by omega) (by omega) ?_
        intro v10 w10 ho10 hg10
        obtain ⟨pN, cN, hpN⟩ := ho10.form
        subst hpN
        have hcN := ho10.bounds.1
        go_wp2
        refine NoPanic.normal ?_
        have hz10 := hg10.size
        have hzQ := HSQ.out.size
        have HMX := Lib.hid (show hasMap Tryz.prog 31 w10 ms ((x :: S).map bkv) from HM9.out.of_block ((hg10.block ms (by have := HM9.out.lt; omega) (fun e => by have e1 : ms = g := Option.some.inj e; omega)).trans (HSQ.out.block ms (by have := HM9.out.lt; omega))))
        have HBX := Lib.hid ((HB9.out.trans ((HSQ.out.mono hNQa).mono HB9.out.size)).grown hg10 (by have := HB9.out.size; omega) (fun k e => by have e1 : g = k := Option.some.inj e; omega))
        have HTX := Lib.hid (show OwnsO w10 wV.heap.size 31 32 (.slice (loP pN cN 1 32) (n1 + P1.length) (cN - 1)) (n1 + P1.length) (pcs (R' ++ P1)) by
          have h1 : OwnsO w10 wV.heap.size 31 32 (.slice pN (n1 + P1.length + 1) cN) (n1 + P1.length + 1) (pcs (x :: R') ++ pcs P1) := by
            have e : n1 + P1.length + 1 = n1 + 1 + P1.length := by omega
            rw [e]
            exact ho10
          have h2 := h1.tail.1
          have h3 : (pcs (x :: R') ++ pcs P1).drop 32 = pcs (R' ++ P1) := by
            have hb : (bcs x).length = 32 := by rw [bcs_length, HX32.out]
            simp only [pcs, List.flatMap_cons, List.flatMap_append, List.append_assoc]
            rw [← hb, List.drop_left]
          rw [h3] at h2
          exact h2)
        have HMLX := Lib.hid HMX.out.len
        clear ho10 hg10
        go_upto_region 6 with fail
        go_wp2_with (refine wpList_lo rfl 28 _ _ rfl 31 32 Tryz.underlying28 HI.out pN (n1 + 1 + P1.length) cN 1 .i64 (by rfl) (by rfl) (by omega) ?_)
        go_roundw
        case rel => exact ⟨R' ++ P1, x :: S, by omega, by simpa using hS1, by rw [List.length_append, ← HN1.out, List.length_cons]; omega, by rw [List.length_append, ← HN1.out]; exact HTX, HMX, Lib.hid (fun z hz => (List.mem_append.1 hz).elim (fun h => HRA.out z (by simp [h])) (fun h => Anc.more HXA.out (by rw [← HP1.out]; exact h))), HSA2, Lib.hid (fun z hz => (List.mem_append.1 hz).elim (fun h => HR32.out z (by simp [h])) (HP132.out z)), Lib.hid (fun z hz => by
          rcases List.mem_cons.1 hz with rfl | hz
          · exact HX32.out
          · exact HS32.out z hz), HND2, HBX⟩
        case measure =>
          have h1 := HMLX.out
          have h2 := HML.out
          simp only [List.length_map, List.length_cons] at h1 h2
          simp [sliceLen, h1, h2] <;> omega
end Go.Proofs.YtfoifdhcelcgiaaGreatDoor
