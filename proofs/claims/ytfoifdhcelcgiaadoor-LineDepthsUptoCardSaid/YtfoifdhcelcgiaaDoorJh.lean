/-
  Get, Heads, Next.
-/
import Derived.Test.YtfoifdhcelcgiaaDoorDagT
/- What a set answers of a name; its heads. -/
namespace Go.Proofs.YtfoifdhcelcgiaaDoor
open Go Go.RowKit

theorem DagSet.newB {w : World} {b mo mw mt : Nat} {B B' : Nat → Prop} {T : List (Nm × Nat)} (h : DagSet w b mo mw mt B [] [] T) (h1 : ∀ i, i < w.heap.size → B i → B' i) : DagSet w b mo mw mt B' [] [] T :=
  ⟨h.box, h.ops, h.wait, h.out, by simp, by simp, h.okT, h.cnt, ⟨h1 _ h.lt h.inB.1, h1 _ h.ops.lt h.inB.2.1, h1 _ h.wait.lt h.inB.2.2.1, h1 _ h.out.lt h.inB.2.2.2⟩, h.ne, by simp⟩
theorem Z38 : (Value.agg (zeroOp.cs none 0).toArray).cells.size = 38 := by decide

set_option maxRecDepth 100000 in
set_option maxHeartbeats 16000000 in
theorem get_any (b mo mw mt : Nat) (B : Nat → Prop) (O W : List E3) (T : List (Nm × Nat)) (nm : Nm) (hnm : nm.length = 32) (w : World) (h : DagSet w b mo mw mt B O W T) :
    Calls Tryd.prog 12 #[.pointer (some ⟨b, 0, none⟩), idv nm] w fun e w' => Below w.heap.size w w' ∧
      ((∃ o' v, opAt (O.map E3.ent) nm = some o' ∧ e = .returned (.tuple #[v, .int .i64 0]) ∧ OpNew w.heap.size w' v o') ∨
       (opAt (O.map E3.ent) nm = none ∧ e = .returned (.tuple #[.agg (zeroOp.cs none 0).toArray, .int .i64 5]))) := by
  obtain ⟨hz, hid⟩ := info_two idInfo
  obtain ⟨hzo, hio⟩ := info_two opZero
  have HI := Lib.hid hid
  have HZO := Lib.hid hzo
  have HNM := Lib.hid hnm
  have hblt := h.lt
  obtain ⟨w4, hw4⟩ : ∃ w4, w4 = (w.alloc (.cells (bcs nm).toArray 34)).alloc (.cells (zeroOp.cs none 0).toArray 38) := ⟨_, rfl⟩
  have hb4 : Below w.heap.size w w4 := by rw [hw4]; exact ((Below.refl _ w).alloc (Nat.le_refl _) _).alloc (by simp) _
  have HNCw4 := Lib.hid (show cellsAt w4 w.heap.size 0 (bcs nm) by
    rw [hw4]
    exact cellsAt.of_block (by simpa using cellsAt_new w (bcs nm).toArray 34) ((MapKept.heap_alloc _ _).2 _ (by simp)))
  have HDDw4 := Lib.hid (show w4.heap[w.heap.size + 1]? = some (.cells (zeroOp.cs none 0).toArray 38 (0, 0)) by rw [hw4]; exact heap_alloc2 _ _ _)
  have hz4w : w4.heap.size = w.heap.size + 2 := by rw [hw4]; simp
  have HBw4 := Lib.hid hb4
  have HHw4 := Lib.hid (h.under hb4)
  clear h hnm hb4 hz hid hzo hio
  go_enter Tryd.func12, Tryd.ntmps12
  go_upto_region 3 with (first
    | (refine wpList_boxAgg _ rfl 34 _ rfl (bcs nm).toArray (by rfl) ?_)
    | (refine wpList_allocZ _ rfl 38 rfl _ HZO.out ?_))
  rw [show (w.alloc (.cells (bcs nm).toArray 34)).alloc (.cells (zeroOp.cs none 0).toArray 38) = w4 from hw4.symm]
  clear hw4
  obtain ⟨N4, hN4a, hN4b⟩ : ∃ n, w4.heap.size ≤ n ∧ n ≤ w4.heap.size := ⟨_, Nat.le_refl _, Nat.le_refl _⟩
  obtain ⟨V6, hV6⟩ : ∃ V, V = valAt O nm := ⟨_, rfl⟩
  obtain ⟨b6x, hb6x⟩ : ∃ bx, bx = hasN (O.map E3.ent) nm := ⟨_, rfl⟩
  have HBb6x := Lib.hid hb6x
  refine wp_region_noPanic ?_
  refine wp_region_till 11 (fun w' => Below N4 w4 w') (by kernel_rfl) (by kernel_rfl) ?_
  obtain ⟨wA6, hwA6⟩ : ∃ wA6, wA6 = w4.drew := ⟨_, rfl⟩
  have hSwA6 : Below N4 w4 wA6 := by rw [hwA6]; exact (Below.refl N4 w4).drew
  rw [← hwA6]
  have HS6 := Lib.hid hSwA6
  have hzwA6 : wA6.heap.size = w4.heap.size := by rw [hwA6]; rfl
  clear hwA6 hSwA6
  go_simp
  have HLK6 := Lib.hid (show ∀ w', Below N4 w4 w' → (Instr.lookup 65 (.map (some mo)) (idv nm) true).run Tryd.prog w' = .ok (.tuple #[.agg V6.toArray, .bool b6x]) w' from fun w' hw' => by
    rw [hb6x, hV6]
    exact (HHw4.out.below hw' hN4a).ops.look3 HNM.out true)
  have HV6 := Lib.hid (show V6.length = 38 by rw [hV6]; exact valAt_length HHw4.out.okO nm)
  have HV6o := Lib.hid (show ∀ u ∈ V6, u.oneCell' = true by rw [hV6]; exact valAt_one O nm)
  have HV6s := Lib.hid (show 38 = V6.toArray.size by rw [List.size_toArray, HV6.out])
  have HV6x := Lib.hid hV6
  clear hV6 hb6x
  refine Till.pure 0 rfl rfl (by kernel_rfl) (NoPanic.noFrame _) HS6.out ?_
  go_big_quiet_step (fail)
  refine wpQuiet_nil ?_
  refine Till.pure 1 rfl rfl (by kernel_rfl) (NoPanic.noFrame _) HS6.out ?_
  go_big_quiet_step (fail)
  refine wpQuiet_nil ?_
  refine Till.pure 2 rfl rfl (by kernel_rfl) (NoPanic.noFrame _) HS6.out ?_
  go_big_quiet_step (fail)
  refine wpQuiet_nil ?_
  refine Till.load 3 65 _ ⟨b, 0, none⟩ (.map (some mo)) rfl rfl rfl rfl (by kernel_rfl) (NoPanic.noFrame _) HS6.out (fun w' hw' => run_loadVar_one Tryd.underlying65 rfl (HHw4.out.below hw' hN4a).c0) ?_
  go_simp
  refine Till.load 4 34 _ ⟨w.heap.size, 0, none⟩ (idv nm) rfl rfl rfl rfl (by kernel_rfl) (NoPanic.noFrame _) HS6.out (fun w' hw' => run_loadAgg Tryd.underlying34 rfl (by rw [HI.out, bcs_length, HNM.out]) (HNCw4.out.of_block (hw'.block _ (by omega)))) ?_
  go_simp
  refine Till.look 5 65 _ _ true (.map (some mo)) (idv nm) _ rfl rfl rfl (by rfl) (by rfl) (by kernel_rfl) (NoPanic.noFrame _) HS6.out HLK6.out ?_
  go_simp
  refine Till.pure 6 rfl rfl (by kernel_rfl) (NoPanic.noFrame _) HS6.out ?_
  go_big_quiet_step (fail)
  refine wpQuiet_nil ?_
  refine Till.pure 7 rfl rfl (by kernel_rfl) (NoPanic.noFrame _) HS6.out ?_
  go_big_quiet_step (fail)
  refine wpQuiet_nil ?_
  refine Till.pure 8 rfl rfl (by kernel_rfl) (NoPanic.noFrame _) HS6.out ?_
  go_big_quiet_step (fail)
  refine wpQuiet_nil ?_
  refine Till.act 9 rfl rfl (by kernel_rfl) rfl ?_
  intro K hK
  refine wp_allocZ _ 38 rfl _ HZO.out ?_
  refine hK _ _ (HS6.out.alloc (by omega) _) ?_
  clear hK K
  refine Till.act 10 rfl rfl (by kernel_rfl) rfl ?_
  intro K hK
  refine wp_storeNew _ wA6 38 _ _ rfl _ rfl (by rfl) V6.toArray (by rfl) (by rw [opInfo, List.size_toArray, HV6.out]) HV6s.out (by simpa using HV6o.out) ?_
  refine hK _ _ (HS6.out.alloc (by omega) _) ?_
  clear hK K
  refine Till.tail _ rfl rfl (by kernel_rfl) (by kernel_rfl) ?_
  obtain ⟨w5, hw5⟩ : ∃ w, w = wA6.alloc (.cells V6.toArray 38) := ⟨_, rfl⟩
  have hbw5 : Below w4.heap.size w4 w5 := by rw [hw5]; exact (HS6.out.mono hN4a).alloc (by omega) _
  have hzw45 : wA6.heap.size < w5.heap.size := by rw [hw5]; simp
  rw [← hw5]
  have HHw5 := Lib.hid (HHw4.out.under hbw5)
  have HNCw5 := Lib.hid (HNCw4.out.of_block (hbw5.block _ (by omega)))
  have HDDw5 := Lib.hid ((hbw5.block _ (by omega)).trans HDDw4.out)
  have HVC := Lib.hid (show cellsAt w5 wA6.heap.size 0 V6 by rw [hw5]; simpa using cellsAt_new wA6 V6.toArray 38)
  have HBw5 := Lib.hid (HBw4.out.trans (hbw5.mono (by omega)))
  have hzw5 := hbw5.size
  clear hw5 hbw5
  go_wp2
  refine NoPanic.normal ?_
  cases hat : e3At O nm with
  | none =>
    obtain rfl : b6x = false := by rw [HBb6x.out, hasN_ent, hat]; rfl
    have hop : opAt (O.map E3.ent) nm = none := by rw [← e3At_ent, hat]; rfl
    go_wp2_with (first
      | (refine wpList_buildZ _ rfl 38 rfl _ (build_op _) ?_)
      | (refine wpList_storeRow rfl 38 _ _ rfl HDDw5.out (by rfl) (zeroOp.cs none 0).toArray (by rfl) (by rw [opInfo]; rfl) (by rfl) (by simpa using OpV.cs_one zeroOp none 0) ?_; intro w6 hw6 hg6 hs6))
    have hcf : cellsAt w6 (w.heap.size + 1) 0 (zeroOp.cs none 0) := fun j u hj => by rw [cell_of_row _ _ _ _ _ _ hw6, Nat.zero_add]; simpa using hj
    have hbf : Below w.heap.size w w6 := HBw5.out.grown hg6 (by omega) (fun k e => by have := Option.some.inj e; omega)
    refine bodyPost_ret (results_cell_tmp rfl (by rfl) (run_loadAgg Tryd.underlying38 rfl (by rw [opInfo]; rfl) hcf)) rfl ⟨hbf, .inr ⟨hop, rfl⟩⟩
  | some e =>
    obtain rfl : b6x = true := by rw [HBb6x.out, hasN_ent, hat]; rfl
    obtain ⟨hem, hen⟩ := e3At_mem hat
    have hve : V6 = e.o.cs e.p e.c := by rw [HV6x.out, valAt, hat]; rfl
    have hok := HHw5.out.okO e hem
    have hop : opAt (O.map E3.ent) nm = some e.o := by rw [← e3At_ent, hat]; rfl
    have HOP := Lib.hid hop
    have HVC2 := Lib.hid (show cellsAt w5 wA6.heap.size 0 (e.o.cs e.p e.c) by rw [← hve]; exact HVC.out)
    have HOK := Lib.hid hok
    have HCX := Lib.hid (OpV.cs_length hok.ok e.p e.c)
    clear hat hem hen hve hok hop HVC HV6x
    go_wp2_with (first
      | (refine wpList_loadAgg _ rfl 38 _ rfl _ Tryd.underlying38 rfl (w.heap.size + 2) 0 (by rfl) (e.o.cs e.p e.c) (by rw [opInfo, HCX.out]) (by rw [← hz4w, ← hzwA6]; exact HVC2.out) ?_)
      | (go_at_call 34; refine (opclone_any e.o HOK.out.ok e.p e.c w5 HOK.out.src).mono ?_; rintro e8 w8 ⟨v8, rfl, ⟨p8, c8, rfl, hown8⟩, hb8⟩)
      | (refine wpList_storeRow rfl 38 _ _ rfl ((hb8.block _ (by omega)).trans HDDw5.out) (by rfl) (e.o.cs p8 c8).toArray (by rfl) (by rw [opInfo, List.size_toArray, OpV.cs_length HOK.out.ok]) (show 38 = (e.o.cs p8 c8).toArray.size by rw [List.size_toArray, OpV.cs_length HOK.out.ok]) (by simpa using OpV.cs_one e.o p8 c8) ?_; intro w9 hw9 hg9 hs9))
    have hz8 := hb8.size
    have hcf : cellsAt w9 (w.heap.size + 1) 0 (e.o.cs p8 c8) := fun j u hj => by rw [cell_of_row _ _ _ _ _ _ hw9, Nat.zero_add]; simpa using hj
    have hbf : Below w.heap.size w w9 := (HBw5.out.trans (hb8.mono (by omega))).grown hg9 (by omega) (fun k e => by have := Option.some.inj e; omega)
    have ho9 := hown8.keep (w' := w9) (fun g hg => by
      have h1 := hown8.lt hg
      exact hg9.block g h1.2 (fun e => by have := Option.some.inj e; omega))
    refine bodyPost_ret (results_cell_tmp rfl (by rfl) (run_loadAgg Tryd.underlying38 rfl (by rw [opInfo, OpV.cs_length HOK.out.ok]) hcf)) rfl ⟨hbf, .inl ⟨e.o, _, HOP.out, rfl, p8, c8, rfl, ho9.down (by omega)⟩⟩
end Go.Proofs.YtfoifdhcelcgiaaDoor

/- The heads of a set; a draft there. -/
namespace Go.Proofs.YtfoifdhcelcgiaaDoor
open Go Go.RowKit

theorem names_ent (O : List E3) : O.map (·.n) = namesOf (O.map E3.ent) := by simp [namesOf, E3.ent]
theorem heads_filter (O W : List E3) : headsL ⟨O.map E3.ent, W.map E3.ent⟩ = (nsort (O.map (·.n))).filter fun n => decide (behindN (O.map E3.ent) n = 0) := by
  rw [headsL, ← nsort_filter, names_ent]
theorem headsL_len (s : DS) : ∀ x ∈ headsL s, x ∈ namesOf s.ops := fun _ hx => (List.mem_filter.1 (nsort_mem.1 hx)).1
theorem headsL_le (s : DS) : (headsL s).length ≤ s.ops.length := by
  rw [headsL, (nsort_perm _).length_eq]
  exact Nat.le_trans (List.length_filter_le _ _) (by simp [namesOf])

set_option maxRecDepth 100000 in
set_option maxHeartbeats 8000000 in
theorem heads_any (b mo mw mt : Nat) (B : Nat → Prop) (O W : List E3) (T : List (Nm × Nat)) (w : World) (h : DagSet w b mo mw mt B O W T) (hL : O.length ≤ 1000000) :
    Calls Tryd.prog 18 #[.pointer (some ⟨b, 0, none⟩)] w fun e w' => ∃ v, e = .returned v ∧ Owns w' w.heap.size 34 32 v (headsL ⟨O.map E3.ent, W.map E3.ent⟩).length (pcs (headsL ⟨O.map E3.ent, W.map E3.ent⟩)) ∧ Below w.heap.size w w' := by
  obtain ⟨i0, hi, hz0, hz1, hz2⟩ := info_parts idInfo3
  obtain ⟨hz, hid⟩ := info_two idInfo
  have HZ := Lib.hid hz
  have HI := Lib.hid hid
  have HH := Lib.hid h
  have HN := Lib.hid (dnames_any b mo mw mt B O W T w h (by omega))
  have HHF := Lib.hid (heads_filter O W)
  clear h hz hid
  obtain ⟨X, hX⟩ : ∃ X, X = nsort (O.map (·.n)) := ⟨_, rfl⟩
  rw [← hX] at HN HHF
  have hX32 : ∀ x ∈ X, x.length = 32 := fun x hx => by
    rw [hX] at hx
    obtain ⟨e, he, rfl⟩ := List.mem_map.1 (nsort_mem.1 hx)
    exact (HH.out.okO e he).len
  have hXl : X.length ≤ 1000000 := by rw [hX, (nsort_perm _).length_eq, List.length_map]; exact hL
  have HX32 := Lib.hid hX32
  clear hX hX32
  go_enter Tryd.func18, Tryd.ntmps18
  go_wp2_with (go_at_call 11; refine HN.out.mono ?_; rintro e w1 ⟨v1, rfl, hown1, hb1⟩; obtain ⟨p1, c1, rfl⟩ := hown1.form)
  have hz1w := hb1.size
  have HB1 := Lib.hid hb1
  have HS1 := Lib.hid (⟨hown1.src⟩ : Src w1 p1 (pcs X))
  have HH1 := Lib.hid (HH.out.under hb1)
  clear hown1 hb1
  go_loopw [3, 9] (fun v x wr => ∃ (n : Nat) (L : List Nm), n ≤ X.length ∧ x = .int .i64 n ∧ L.length ≤ n ∧ Hid (L = (X.take n).filter fun n => decide (behindN (O.map E3.ent) n = 0)) ∧ Hid (Owns wr w1.heap.size 34 32 v L.length (pcs L)) ∧ Hid (Below w1.heap.size w1 wr)) (fun _ x _ => X.length - (intOf x).toNat)
  case atStart => exact ⟨0, [], by omega, rfl, by simp, Lib.hid rfl, Lib.hid (Owns.nil _ _ _ _), Lib.hid (Below.refl _ _)⟩
  case round =>
    obtain ⟨n, L, hn1, rfl, hlen, hL2, hown, hbr⟩ := hrel
    have hszr := hbr.out.size
    by_cases hlt2 : n < X.length
    · obtain ⟨x, g, off, hx1, hx2, hx3, rfl, hx4⟩ := pred_at HS1.out.at_ HX32.out hlt2
      have hg := bcs_at_lt hx4 hx3
      have hcx : cellsAt wr g (off + n * 32) (bcs x) := hx4.of_block (hbr.out.block _ hg)
      have HX := Lib.hid hcx
      have HX2 := Lib.hid hx2
      have HX3 := Lib.hid hx3
      have HZX := Lib.hid (show (fillB [] 32).size = (bcs x).toArray.size by rw [show (bcs x).toArray.size = (bcs x).length from rfl, bcs_length, hx3]; rfl)
      clear hx1 hx2 hx3 hx4 hcx
      go_upto_region 5 with (first
        | (refine wpList_loadAgg _ rfl 34 _ rfl _ Tryd.underlying34 rfl g (off + n * 32) (by rfl) (bcs x) (by rw [HI.out, bcs_length, HX3.out]) HX.out ?_)
        | (refine wpList_allocZ _ rfl 34 rfl _ HZ.out ?_)
        | (refine wpList_storeNew _ wr rfl 34 _ _ rfl (fillB [] 32) rfl (by rfl) (bcs x).toArray (by rfl) (by rw [HI.out, List.size_toArray, bcs_length, HX3.out]) HZX.out (by simpa using bcs_one x) ?_))
      obtain ⟨w2, hw2⟩ : ∃ w2, w2 = wr.alloc (.cells (bcs x).toArray 34) := ⟨_, rfl⟩
      rw [← hw2]
      have hb2 : Below wr.heap.size wr w2 := by rw [hw2]; exact (Below.refl _ wr).alloc (Nat.le_refl _) _
      have hx2' : cellsAt w2 wr.heap.size 0 (bcs x) := by rw [hw2]; simpa using cellsAt_new wr (bcs x).toArray 34
      have hz2' : wr.heap.size < w2.heap.size := by rw [hw2]; simp
      have HX5 := Lib.hid hx2'
      have HB2 := Lib.hid (hbr.out.trans (hb2.mono (by omega)))
      have hown2 := Lib.hid (hown.out.under hb2)
      obtain ⟨N2, hN2, hN3⟩ : ∃ n, w2.heap.size ≤ n ∧ n ≤ w2.heap.size := ⟨_, Nat.le_refl _, Nat.le_refl _⟩
      clear hw2 hb2 hx2'
      have HH2 := Lib.hid (HH1.out.under HB2.out)
      obtain ⟨CN, hCN⟩ : ∃ CN, CN = cntOf T x := ⟨_, rfl⟩
      refine wp_region_noPanic ?_
      refine wp_region_till 6 (fun w' => Below N2 w2 w') (by kernel_rfl) (by kernel_rfl) ?_
      obtain ⟨wA, hwA⟩ : ∃ wA, wA = w2.drew := ⟨_, rfl⟩
      have hSA : Below N2 w2 wA := by rw [hwA]; exact (Below.refl N2 w2).drew
      rw [← hwA]
      have HSA := Lib.hid hSA
      have hzA : wA.heap.size = w2.heap.size := by rw [hwA]; rfl
      clear hwA hSA
      have HLK := Lib.hid (show ∀ w', Below N2 w2 w' → (Instr.lookup 66 (.map (some mt)) (idv x) false).run Tryd.prog w' = .ok (.int .i64 CN) w' from fun w' hw' => by
        rw [hCN]
        exact (HH2.out.below hw' hN2).out.lookT HX3.out)
      have HCN := Lib.hid (show CN = behindN (O.map E3.ent) x by rw [hCN]; exact HH2.out.cnt x)
      clear hCN
      go_simp
      refine Till.pure 0 rfl rfl (by kernel_rfl) (NoPanic.noFrame _) HSA.out ?_
      go_big_quiet_step (fail)
      refine wpQuiet_nil ?_
      refine Till.pure 1 rfl rfl (by kernel_rfl) (NoPanic.noFrame _) HSA.out ?_
      go_big_quiet_step (fail)
      refine wpQuiet_nil ?_
      refine Till.pure 2 rfl rfl (by kernel_rfl) (NoPanic.noFrame _) HSA.out ?_
      go_big_quiet_step (fail)
      refine wpQuiet_nil ?_
      refine Till.load 3 66 _ ⟨b, 2, none⟩ (.map (some mt)) rfl rfl rfl rfl (by kernel_rfl) (NoPanic.noFrame _) HSA.out (fun w' hw' => run_loadVar_one Tryd.underlying66 rfl (HH2.out.below hw' hN2).c2) ?_
      go_simp
      refine Till.load 4 34 _ ⟨wr.heap.size, 0, none⟩ (idv x) rfl rfl rfl rfl (by kernel_rfl) (NoPanic.noFrame _) HSA.out (fun w' hw' => run_loadAgg Tryd.underlying34 rfl (by rw [HI.out, bcs_length, HX3.out]) (HX5.out.of_block (hw'.block _ (by omega)))) ?_
      go_simp
      refine Till.look 5 66 _ _ false (.map (some mt)) (idv x) _ rfl rfl rfl (by rfl) (by rfl) (by kernel_rfl) (NoPanic.noFrame _) HSA.out HLK.out ?_
      go_simp
      refine Till.tail _ rfl rfl (by kernel_rfl) (by kernel_rfl) ?_
      have hcA := Lib.hid (HX5.out.of_block (HSA.out.block _ (by omega)))
      have hownA := Lib.hid (hown2.out.under (HSA.out.mono hN2))
      have hbA := Lib.hid (HB2.out.trans (HSA.out.mono (by omega)))
      by_cases h0 : CN = 0
      · have hb0 : ((CN : Int) == 0) = true := by simp [h0]
        go_wp2
        refine NoPanic.normal ?_
        go_wp2_with (first
          | (refine wpList_loadAgg _ rfl 34 _ rfl _ Tryd.underlying34 rfl wr.heap.size 0 (by rfl) (bcs x) (by rw [HI.out, bcs_length, HX3.out]) hcA.out ?_)
          | (refine wpList_buildOne _ rfl 29 _ rfl 34 32 _ Tryd.underlying29 HI.out (by omega) (by omega) HZ.out (bcs x).toArray (by rfl) (by rw [List.size_toArray, bcs_length, HX3.out]) ?_)
          | (at_builtin; refine wpList_append_G rfl _ _ 29 rfl w1.heap.size 34 i0 _ 32 32 Tryd.underlying29 hi hz0 hz1 hz2 (by rfl) (by omega) u3 L.length (pcs L) (by rfl) (hownA.out.alloc _) (some ⟨wA.heap.size, 0, none⟩) 1 1 (bcs x) (by rfl) (by rw [bcs_length, HX3.out]) (src_new wA (bcs x) 34) (fun a e => by cases e; rfl) (bcs_one x) (by unfold maxLen; omega) (by omega) (by rw [World.size_alloc]; omega) ?_; intro v4 w4 hown4 hg4 hs4))
        have hb4 : Below w1.heap.size w1 w4 := below_grown (hbA.out.alloc (by omega) _) hg4 (hownA.out.alloc _) (by rw [World.size_alloc]; omega)
        rw [show pcs L ++ bcs x = pcs (L ++ [x]) by simp [pcs], show L.length + 1 = (L ++ [x]).length by simp] at hown4
        go_roundw
        case rel => exact ⟨n + 1, L ++ [x], by omega, by go_num, by simp; omega, Lib.hid (by rw [HX2.out, List.filter_append, hL2.out]; simp [← HCN.out, h0]), Lib.hid hown4, Lib.hid hb4⟩
        case measure => simp [intOf] <;> omega
      · have hb0 : ((CN : Int) == 0) = false := by simpa using h0
        go_wp2
        refine NoPanic.normal ?_
        go_wp2
        go_roundw
        case rel => exact ⟨n + 1, L, by omega, by go_num, by omega, Lib.hid (by rw [HX2.out, List.filter_append, hL2.out]; simp [← HCN.out, h0]), hownA, hbA⟩
        case measure => simp [intOf] <;> omega
    · obtain rfl : n = X.length := by omega
      go_wp2
      go_ret
      have hf : headsL ⟨O.map E3.ent, W.map E3.ent⟩ = L := by rw [HHF.out, hL2.out, List.take_length]
      rw [hf]
      exact ⟨_, rfl, hown.out.down (by omega), HB1.out.trans (hbr.out.mono (by omega))⟩

/-! ### an operation that is built -/
def placesOf (fs : Array Field) : Sem (Array (Nat × Nat)) := fs.mapM fun (f : Field) => do pure (f.offset, ← sizeOf f.type)
theorem opPlaces (fs : Array Field) (hf : Tryd.prog.underlying 38 = some (.struct fs)) (w : World) : (placesOf fs).run Tryd.prog w = .ok #[(0, 35), (35, 1), (36, 1), (37, 1)] w := by
  have key : (match Tryd.prog.underlying 38 with | some (.struct fs) => (placesOf fs).run Tryd.prog w | _ => .ok #[] w) = .ok #[(0, 35), (35, 1), (36, 1), (37, 1)] w := by kernel_rfl
  rw [hf] at key
  exact key
theorem fill_step {place : Nat → Option (Nat × Nat)} {cells : Array Value} {i : Nat} {v : Value} {rest : List (Nat × Value)} {off size : Nat} (hp : place i = some (off, size)) (h1 : v.cells.size = size) (h2 : off + size ≤ cells.size) :
    Instr.fill place cells ((i, v) :: rest) = Instr.fill place (cells.toList.take off ++ v.cells.toList ++ cells.toList.drop (off + size)).toArray rest := by
  subst h1
  simp only [Instr.fill, hp]
  rw [if_neg (by simp; omega)]
  congr 1
  apply Array.ext'
  rw [fold_cells off v.cells cells h2]
theorem fill_op {d : Dr} (hd : d.Ok) (a : Int) (s : Value) (hs : s.cells = #[s]) :
    Instr.fill (fun i => (#[(0, 35), (35, 1), (36, 1), (37, 1)] : Array (Nat × Nat))[i]?) (Value.agg (zeroOp.cs none 0).toArray).cells [(0, drv d), (1, .int .i64 a), (3, s)] = some (d.cs ++ [.int .i64 a, .int .i64 0, s]).toArray := by
  have h35 : d.cs.length = 35 := Dr.cs_length hd
  have e0 : (Value.agg (zeroOp.cs none 0).toArray).cells.toList.drop 35 = [.int .i64 0, .int .i64 0, .slice none 0 0] := rfl
  rw [fill_step (off := 0) (size := 35) rfl (by show d.cs.toArray.size = 35; rw [List.size_toArray, h35]) (by rw [Z38]; omega), Nat.zero_add, e0]
  simp only [Value.cells, List.take_zero, List.nil_append]
  rw [fill_step (off := 35) (size := 1) rfl rfl (by simp [h35])]
  simp only [Value.cells]
  have e1 : ∀ l : List Value, (d.cs ++ l).take 35 = d.cs := fun l => List.take_left' h35
  have e2 : ∀ (l : List Value) (k : Nat), (d.cs ++ l).drop (35 + k) = l.drop k := fun l k => by
    rw [List.drop_append, h35, List.drop_eq_nil_of_le (by omega), Nat.add_sub_cancel_left, List.nil_append]
  have e3 : ∀ (l : List Value) (k : Nat), (d.cs ++ l).take (35 + k) = d.cs ++ l.take k := fun l k => by
    rw [List.take_append, h35, List.take_of_length_le (by omega), Nat.add_sub_cancel_left]
  rw [e1, e2]
  rw [fill_step (off := 37) (size := 1) rfl (by rw [hs]; rfl) (by simp [h35])]
  simp only [Instr.fill, hs]
  rw [show (d.cs ++ [Value.int .i64 a] ++ List.drop 1 [Value.int .i64 0, .int .i64 0, .slice none 0 0]) = d.cs ++ [.int .i64 a, .int .i64 0, .slice none 0 0] by simp, show 37 = 35 + 2 from rfl, e3, show 35 + 2 + 1 = 35 + 3 from rfl, e2]
  simp

def opCs (d : Dr) (a : Int) (p : Option Addr) (n c : Nat) : List Value := d.cs ++ [.int .i64 a, .int .i64 0, .slice p n c]
theorem run_buildOp {d : Dr} (hd : d.Ok) (a : Int) (p : Option Addr) (n c : Nat) (w : World) :
    (Instr.build 38 #[(0, drv d), (1, .int .i64 a), (3, .slice p n c)]).run Tryd.prog w = .ok (Value.agg (opCs d a p n c).toArray) w := by
  unfold Instr.build
  have hp := opPlaces _ Tryd.underlying38 w
  unfold placesOf at hp
  have hf := fill_op hd a (.slice p n c) rfl
  simp only [Sem.run_bind, (info_two opZero).1 w, Result.andThen_ok, run_underlying Tryd.underlying38, hp, hf, Sem.run_pure]
  rfl
theorem wpList_buildOp (w : World) {ops : Array Oper} {rest : List Oper} {o : Oper} {a : Act} {Q : Exit → Act → World → Prop} (hg : o.guard = none) (x0 x1 x3 : Operand) (hop : o.op = .build 38 #[(0, x0), (1, x1), (3, x3)]) {d : Dr} (hd : d.Ok) (au : Int) (p : Option Addr) (n c : Nat)
    (h0 : a.eval x0 = drv d) (h1 : a.eval x1 = .int .i64 au) (h3 : a.eval x3 = .slice p n c) (h : wpList Tryd.prog ops Q rest (a.put o.dst (Value.agg (opCs d au p n c).toArray)) w) : wpList Tryd.prog ops Q (o :: rest) a w := by
  refine wpList_plain hg fun K' hK' => ?_
  have hr := run_buildOp hd au p n c w
  unfold Oper.wp execOp
  simp only [hop, List.map_toArray, List.map_cons, List.map_nil, h0, h1, h3, Sem.run_bind, hr, Result.andThen_ok, Sem.run_pure]
  exact hK' _ _ h
end Go.Proofs.YtfoifdhcelcgiaaDoor

/- A draft at a set: the next operation. -/
namespace Go.Proofs.YtfoifdhcelcgiaaDoor
open Go Go.RowKit

theorem OpV.cs_depth {o : OpV} (ho : o.Ok) (p : Option Addr) (c : Nat) (k : Int) : (o.cs p c).toArray.setIfInBounds 36 (.int .i64 k) = ((⟨o.d, o.author, k, o.preds⟩ : OpV).cs p c).toArray := by
  apply Array.ext'
  simp only [Array.toList_setIfInBounds]
  unfold OpV.cs
  rw [List.set_append_right _ _ (by rw [Dr.cs_length ho.d]; omega), Dr.cs_length ho.d]
  rfl

set_option maxRecDepth 100000 in
set_option maxHeartbeats 16000000 in
theorem next_any (b mo mw mt : Nat) (B : Nat → Prop) (O W : List E3) (T : List (Nm × Nat)) (a : Int) (ha1 : -9223372036854775808 ≤ a) (ha2 : a ≤ 9223372036854775807) (d : Dr) (hd : d.Ok) (w : World) (h : DagSet w b mo mw mt B O W T) (hL : O.length ≤ 1000000) :
    Calls Tryd.prog 21 #[.pointer (some ⟨b, 0, none⟩), .int .i64 a, drv d] w fun e w' => Below w.heap.size w w' ∧
      ∃ p c, e = .returned (.tuple #[.agg ((nextD ⟨O.map E3.ent, W.map E3.ent⟩ a d).1.cs p c).toArray, .int .i64 (nextD ⟨O.map E3.ent, W.map E3.ent⟩ a d).2]) ∧
        Owns w' w.heap.size 34 32 (.slice p (nextD ⟨O.map E3.ent, W.map E3.ent⟩ a d).1.preds.length c) (nextD ⟨O.map E3.ent, W.map E3.ent⟩ a d).1.preds.length (pcs (nextD ⟨O.map E3.ent, W.map E3.ent⟩ a d).1.preds) := by
  obtain ⟨hzo, hio⟩ := info_two opZero
  have HZO := Lib.hid hzo
  have HD := Lib.hid hd
  have HCD := Lib.hid (Dr.cs_length hd)
  have hblt := h.lt
  obtain ⟨S, hS⟩ : ∃ S : DS, S = ⟨O.map E3.ent, W.map E3.ent⟩ := ⟨_, rfl⟩
  obtain ⟨w1, hw1⟩ : ∃ w1, w1 = (w.alloc (.cells d.cs.toArray 36)).alloc (.cells (zeroOp.cs none 0).toArray 38) := ⟨_, rfl⟩
  have hb1 : Below w.heap.size w w1 := by rw [hw1]; exact ((Below.refl _ w).alloc (Nat.le_refl _) _).alloc (by simp) _
  have HC1 := Lib.hid (show cellsAt w1 w.heap.size 0 d.cs by
    rw [hw1]
    exact cellsAt.of_block (by simpa using cellsAt_new w d.cs.toArray 36) ((MapKept.heap_alloc _ _).2 _ (by simp)))
  have HD1 := Lib.hid (show w1.heap[w.heap.size + 1]? = some (.cells (zeroOp.cs none 0).toArray 38 (0, 0)) by rw [hw1]; exact heap_alloc2 _ _ _)
  have hz1 : w.heap.size + 2 ≤ w1.heap.size := by rw [hw1]; simp
  have HB1 := Lib.hid hb1
  have HH1 := Lib.hid (h.under hb1)
  have HHD := Lib.hid (heads_any b mo mw mt B O W T w1 (h.under hb1) hL)
  rw [← hS] at HHD ⊢
  obtain ⟨X, hX⟩ : ∃ X, X = headsL S := ⟨_, rfl⟩
  rw [← hX] at HHD
  have hX32 : ∀ x ∈ X, x.length = 32 := fun x hx => by
    rw [hX] at hx
    have := headsL_len S x hx
    rw [hS] at this
    simp only [← names_ent] at this
    obtain ⟨e, he, rfl⟩ := List.mem_map.1 this
    exact (h.okO e he).len
  have hXl : X.length ≤ 1000000 := by
    have := headsL_le S
    rw [← hX, hS] at this
    simp at this
    omega
  have hok0 : (⟨d, a, 0, X⟩ : OpV).Ok := by
    constructor <;> first | exact hd | exact hX32 | (simp <;> omega)
  have HOK0 := Lib.hid hok0
  have HXS := Lib.hid hX
  have HSS := Lib.hid hS
  clear h hd hb1 hX32 hX hzo hio hok0 hS
  go_enter Tryd.func21, Tryd.ntmps21
  go_upto_region 3 with (first
    | (refine wpList_boxAgg _ rfl 36 _ rfl d.cs.toArray (by rfl) ?_)
    | (refine wpList_allocZ _ rfl 38 rfl _ HZO.out ?_))
  rw [show (w.alloc (.cells d.cs.toArray 36)).alloc (.cells (zeroOp.cs none 0).toArray 38) = w1 from hw1.symm]
  clear hw1
  go_upto_region 4 with (go_at_call 18; refine HHD.out.mono ?_; rintro e w2 ⟨v2, rfl, hown2, hb2⟩; obtain ⟨p2, c2, rfl⟩ := hown2.form)
  have hz2 := hb2.size
  have HB2 := Lib.hid (HB1.out.trans (hb2.mono (by omega)))
  have HC2 := Lib.hid (HC1.out.of_block (hb2.block _ (by omega)))
  have HD2 := Lib.hid ((hb2.block _ (by omega)).trans HD1.out)
  have HO2 := Lib.hid hown2
  have HH2 := Lib.hid (HH1.out.under hb2)
  have HC38 := Lib.hid (show (opCs d a p2 X.length c2).length = 38 from OpV.cs_length HOK0.out p2 c2)
  have HONE := Lib.hid (show ∀ u ∈ opCs d a p2 X.length c2, u.oneCell' = true from OpV.cs_one (⟨d, a, 0, X⟩ : OpV) p2 c2)
  clear hown2 hb2
  go_upto_region 5 with (first
    | (refine wpList_loadAgg _ rfl 36 _ rfl _ Tryd.underlying36 rfl w.heap.size 0 (by rfl) d.cs (by rw [draftInfo, HCD.out]) HC2.out ?_)
    | (refine wpList_buildOp _ rfl _ _ _ rfl HD.out a p2 X.length c2 (by rfl) (by rfl) (by rfl) ?_)
    | (refine wpList_allocZ _ rfl 38 rfl _ HZO.out ?_)
    | (refine wpList_storeNew _ w2 rfl 38 _ _ rfl _ rfl (by rfl) (opCs d a p2 X.length c2).toArray (by rfl) (by rw [opInfo, List.size_toArray, HC38.out]) (show 38 = (opCs d a p2 X.length c2).toArray.size by rw [List.size_toArray, HC38.out]) (by simpa using HONE.out) ?_))
  obtain ⟨w3, hw3⟩ : ∃ w3, w3 = w2.alloc (.cells (opCs d a p2 X.length c2).toArray 38) := ⟨_, rfl⟩
  rw [← hw3]
  have hb3 : Below w2.heap.size w2 w3 := by rw [hw3]; exact (Below.refl _ w2).alloc (Nat.le_refl _) _
  have HR3 := Lib.hid (show w3.heap[w2.heap.size]? = some (.cells ((⟨d, a, 0, X⟩ : OpV).cs p2 c2).toArray 38 (0, 0)) by rw [hw3]; exact (MapKept.heap_alloc _ _).1)
  have HCA3 := Lib.hid (show cellsAt w3 w2.heap.size 0 ((⟨d, a, 0, X⟩ : OpV).cs p2 c2) by rw [hw3]; exact (by simpa using cellsAt_new w2 (opCs d a p2 X.length c2).toArray 38 : cellsAt (w2.alloc (.cells (opCs d a p2 X.length c2).toArray 38)) w2.heap.size 0 (opCs d a p2 X.length c2)))
  have hz3 : w2.heap.size < w3.heap.size := by rw [hw3]; simp
  have HB3 := Lib.hid (HB2.out.trans (hb3.mono (by omega)))
  have HC3 := Lib.hid (HC2.out.of_block (hb3.block _ (by omega)))
  have HD3 := Lib.hid ((hb3.block _ (by omega)).trans HD2.out)
  have HO3 := Lib.hid (HO2.out.under hb3)
  have HH3 := Lib.hid (HH2.out.under hb3)
  clear hw3 hb3
  obtain ⟨DD, hDD⟩ : ∃ DD, DD = depthOf (O.map E3.ent) (⟨d, a, 0, X⟩ : OpV) := ⟨_, rfl⟩
  have hcl := depth_any b mo mw mt B O W T (⟨d, a, 0, X⟩ : OpV) HOK0.out p2 c2 w3 HH3.out ⟨HO3.out.src⟩
  rw [← hDD] at hcl
  have HCL := Lib.hid hcl
  have HDD := Lib.hid hDD
  clear hcl hDD
  go_upto_region 6 with (first
    | (refine wpList_loadAgg _ rfl 38 _ rfl _ Tryd.underlying38 rfl w2.heap.size 0 (by rfl) ((⟨d, a, 0, X⟩ : OpV).cs p2 c2) (by rw [opInfo, OpV.cs_length HOK0.out]) HCA3.out ?_)
    | (go_at_call 50; refine HCL.out.mono ?_; rintro e w4 ⟨rfl, hb4⟩; have hz4 := hb4.size; have hr4 := (hb4.block _ hz3).trans HR3.out; have hc4 := (OpV.cs_at HOK0.out (show cellsAt w4 w2.heap.size 0 ((⟨d, a, 0, X⟩ : OpV).cs p2 c2) from fun j u hj => by rw [cell_of_row _ _ _ _ _ _ hr4, Nat.zero_add]; simpa using hj)).2.1; have hf4 : w4.frozen? ⟨w2.heap.size, 36, none⟩ = false := by simp [World.frozen?, hr4]))
  obtain ⟨w5, hw5⟩ : ∃ w5, w5 = w4.setCell ⟨w2.heap.size, 36, none⟩ (.int .i64 DD) := ⟨_, rfl⟩
  have hg5 : w4.grownBy w5 (some w2.heap.size) := by rw [hw5]; exact grownBy_set _ _ _ _
  have hr5 : w5.heap[w2.heap.size]? = some (.cells ((⟨d, a, DD, X⟩ : OpV).cs p2 c2).toArray 38 (0, 0)) := by
    rw [hw5, setCell_eq_setRow w4 w2.heap.size 36 _ _ (0, 0) _ hr4, setRow_heap w4 w2.heap.size _ _ _ (0, 0) hr4, OpV.cs_depth HOK0.out]
  rw [← hw5]
  have hz5 := hg5.size
  have HR5 := Lib.hid hr5
  have HB5 := Lib.hid ((HB3.out.trans (hb4.mono (by omega))).grown hg5 (by omega) (fun k e => by have := Option.some.inj e; omega))
  have HC5 := Lib.hid (HC3.out.of_block ((hg5.block _ (by omega) (fun e => by have := Option.some.inj e; omega)).trans (hb4.block _ (by omega))))
  have HD5 := Lib.hid ((hg5.block (w.heap.size + 1) (by omega) (fun e => by have := Option.some.inj e; omega)).trans ((hb4.block _ (by omega)).trans HD3.out))
  have HO5 := Lib.hid ((HO3.out.under hb4).keep (w' := w5) (fun g hg => by
    have h1 := HO2.out.lt hg
    exact hg5.block g (by omega) (fun e => by have := Option.some.inj e; omega)))
  clear hw5 hg5 hr5 hr4 hc4 hf4 hb4
  obtain ⟨gd, hgd⟩ : ∃ gd, gd = goodD d := ⟨_, rfl⟩
  have hcg := goodD_any d HD.out w5
  rw [← hgd] at hcg
  have HCG := Lib.hid hcg
  have HGD := Lib.hid hgd
  clear hcg hgd
  cases gd with
  | false =>
    have HNX := Lib.hid (show nextD S a d = (zeroOp, 1) by
      unfold nextD
      rw [if_pos (.inl HGD.out.symm)])
    go_wp2_with (first
      | (refine wpList_loadAgg _ rfl 36 _ rfl _ Tryd.underlying36 rfl w.heap.size 0 (by rfl) d.cs (by rw [draftInfo, HCD.out]) HC5.out ?_)
      | (go_at_call 51; refine HCG.out.mono ?_; rintro e w6 ⟨rfl, hb6⟩)
      | (refine wpList_buildZ _ rfl 38 rfl _ (build_op _) ?_)
      | (refine wpList_storeRow rfl 38 _ _ rfl ((hb6.block _ (by omega)).trans HD5.out) (by rfl) (zeroOp.cs none 0).toArray (by rfl) (by rw [opInfo]; rfl) (by rfl) (by simpa using OpV.cs_one zeroOp none 0) ?_; intro w7 hw7 hg7 hs7))
    have hz6 := hb6.size
    have hcf : cellsAt w7 (w.heap.size + 1) 0 (zeroOp.cs none 0) := fun j u hj => by rw [cell_of_row _ _ _ _ _ _ hw7, Nat.zero_add]; simpa using hj
    have hbf : Below w.heap.size w w7 := (HB5.out.trans (hb6.mono (by omega))).grown hg7 (by omega) (fun k e => by have := Option.some.inj e; omega)
    refine bodyPost_ret (results_cell_tmp rfl (by rfl) (run_loadAgg Tryd.underlying38 rfl (by rw [opInfo]; rfl) hcf)) rfl ⟨hbf, none, 0, by rw [HNX.out]; rfl, by rw [HNX.out]; exact Owns.nil _ _ _ _⟩
  | true =>
    by_cases h1 : a < 0
    · have d1 : decide (a < 0) = true := by simpa using h1
      have HNX := Lib.hid (show nextD S a d = (zeroOp, 1) by
        unfold nextD
        rw [if_pos (.inr (.inl h1))])
      go_wp2_with (first
        | (refine wpList_loadAgg _ rfl 36 _ rfl _ Tryd.underlying36 rfl w.heap.size 0 (by rfl) d.cs (by rw [draftInfo, HCD.out]) HC5.out ?_)
        | (go_at_call 51; refine HCG.out.mono ?_; rintro e w6 ⟨rfl, hb6⟩)
        | (refine wpList_buildZ _ rfl 38 rfl _ (build_op _) ?_)
        | (refine wpList_storeRow rfl 38 _ _ rfl ((hb6.block _ (by omega)).trans HD5.out) (by rfl) (zeroOp.cs none 0).toArray (by rfl) (by rw [opInfo]; rfl) (by rfl) (by simpa using OpV.cs_one zeroOp none 0) ?_; intro w7 hw7 hg7 hs7))
      have hz6 := hb6.size
      have hcf : cellsAt w7 (w.heap.size + 1) 0 (zeroOp.cs none 0) := fun j u hj => by rw [cell_of_row _ _ _ _ _ _ hw7, Nat.zero_add]; simpa using hj
      have hbf : Below w.heap.size w w7 := (HB5.out.trans (hb6.mono (by omega))).grown hg7 (by omega) (fun k e => by have := Option.some.inj e; omega)
      refine bodyPost_ret (results_cell_tmp rfl (by rfl) (run_loadAgg Tryd.underlying38 rfl (by rw [opInfo]; rfl) hcf)) rfl ⟨hbf, none, 0, by rw [HNX.out]; rfl, by rw [HNX.out]; exact Owns.nil _ _ _ _⟩
    · have d1 : decide (a < 0) = false := by simpa using h1
      by_cases h2 : a > 4
      · have d2 : decide (a ≥ 5) = true := by simp; omega
        have d3 : decide (5 ≤ a) = true := by simp; omega
        have h2' : a ≥ 5 := by omega
        have HNX := Lib.hid (show nextD S a d = (zeroOp, 1) by
          unfold nextD
          rw [if_pos (.inr (.inr h2))])
        go_wp2_with (first
          | (refine wpList_loadAgg _ rfl 36 _ rfl _ Tryd.underlying36 rfl w.heap.size 0 (by rfl) d.cs (by rw [draftInfo, HCD.out]) HC5.out ?_)
          | (go_at_call 51; refine HCG.out.mono ?_; rintro e w6 ⟨rfl, hb6⟩)
          | (refine wpList_buildZ _ rfl 38 rfl _ (build_op _) ?_)
          | (refine wpList_storeRow rfl 38 _ _ rfl ((hb6.block _ (by omega)).trans HD5.out) (by rfl) (zeroOp.cs none 0).toArray (by rfl) (by rw [opInfo]; rfl) (by rfl) (by simpa using OpV.cs_one zeroOp none 0) ?_; intro w7 hw7 hg7 hs7))
        have hz6 := hb6.size
        have hcf : cellsAt w7 (w.heap.size + 1) 0 (zeroOp.cs none 0) := fun j u hj => by rw [cell_of_row _ _ _ _ _ _ hw7, Nat.zero_add]; simpa using hj
        have hbf : Below w.heap.size w w7 := (HB5.out.trans (hb6.mono (by omega))).grown hg7 (by omega) (fun k e => by have := Option.some.inj e; omega)
        refine bodyPost_ret (results_cell_tmp rfl (by rfl) (run_loadAgg Tryd.underlying38 rfl (by rw [opInfo]; rfl) hcf)) rfl ⟨hbf, none, 0, by rw [HNX.out]; rfl, by rw [HNX.out]; exact Owns.nil _ _ _ _⟩
      · have d2 : decide (a ≥ 5) = false := by simp; omega
        have d3 : decide (5 ≤ a) = false := by simp; omega
        have h2' : ¬ a ≥ 5 := by omega
        have hcond : ¬ (goodD d = false ∨ a < 0 ∨ a > 4) := by
          rw [← HGD.out]
          simp
          omega
        have HCOND := Lib.hid hcond
        clear hcond
        by_cases h3 : 32 < X.length
        · have d4 : decide ((X.length : Int) > 32) = true := by simp; omega
          have h3' : (X.length : Int) > 32 := by omega
          have HNX := Lib.hid (show nextD S a d = (zeroOp, 3) by
            unfold nextD
            rw [if_neg HCOND.out, if_pos (by rw [← HXS.out]; exact h3)])
          go_wp2_with (first
            | (refine wpList_loadAgg _ rfl 36 _ rfl _ Tryd.underlying36 rfl w.heap.size 0 (by rfl) d.cs (by rw [draftInfo, HCD.out]) HC5.out ?_)
            | (go_at_call 51; refine HCG.out.mono ?_; rintro e w6 ⟨rfl, hb6⟩)
            | (refine wpList_buildZ _ rfl 38 rfl _ (build_op _) ?_)
            | (refine wpList_storeRow rfl 38 _ _ rfl ((hb6.block _ (by omega)).trans HD5.out) (by rfl) (zeroOp.cs none 0).toArray (by rfl) (by rw [opInfo]; rfl) (by rfl) (by simpa using OpV.cs_one zeroOp none 0) ?_; intro w7 hw7 hg7 hs7))
          have hz6 := hb6.size
          have hcf : cellsAt w7 (w.heap.size + 1) 0 (zeroOp.cs none 0) := fun j u hj => by rw [cell_of_row _ _ _ _ _ _ hw7, Nat.zero_add]; simpa using hj
          have hbf : Below w.heap.size w w7 := (HB5.out.trans (hb6.mono (by omega))).grown hg7 (by omega) (fun k e => by have := Option.some.inj e; omega)
          refine bodyPost_ret (results_cell_tmp rfl (by rfl) (run_loadAgg Tryd.underlying38 rfl (by rw [opInfo]; rfl) hcf)) rfl ⟨hbf, none, 0, by rw [HNX.out]; rfl, by rw [HNX.out]; exact Owns.nil _ _ _ _⟩
        · have d4 : decide ((X.length : Int) > 32) = false := by simp; omega
          have h3' : ¬ (X.length : Int) > 32 := by omega
          have HNX := Lib.hid (show nextD S a d = (⟨d, a, DD, X⟩, 0) by
            unfold nextD
            rw [if_neg HCOND.out, if_neg (by rw [← HXS.out]; exact h3), ← HXS.out, HDD.out, HSS.out])
          have hc5 : cellsAt w5 w2.heap.size 0 ((⟨d, a, DD, X⟩ : OpV).cs p2 c2) := fun j u hj => by rw [cell_of_row _ _ _ _ _ _ HR5.out, Nat.zero_add]; simpa using hj
          have HCA5 := Lib.hid hc5
          have HL5 := Lib.hid (show ((⟨d, a, DD, X⟩ : OpV).cs p2 c2).length = 38 by simp [OpV.cs, HCD.out])
          have hz4' : w2.heap.size < w4.heap.size := by omega
          clear hc5
          go_wp2_with (first
            | (refine wpList_loadAgg _ rfl 36 _ rfl _ Tryd.underlying36 rfl w.heap.size 0 (by rfl) d.cs (by rw [draftInfo, HCD.out]) HC5.out ?_)
            | (go_at_call 51; refine HCG.out.mono ?_; rintro e w6 ⟨rfl, hb6⟩)
            | (refine wpList_loadAgg _ rfl 38 _ rfl _ Tryd.underlying38 rfl w2.heap.size 0 (by rfl) ((⟨d, a, DD, X⟩ : OpV).cs p2 c2) (by rw [opInfo, HL5.out]) (HCA5.out.of_block (hb6.block _ (by omega))) ?_)
            | (refine wpList_storeRow rfl 38 _ _ rfl ((hb6.block _ (by omega)).trans HD5.out) (by rfl) ((⟨d, a, DD, X⟩ : OpV).cs p2 c2).toArray (by rfl) (by rw [opInfo, List.size_toArray, HL5.out]) (show 38 = ((⟨d, a, DD, X⟩ : OpV).cs p2 c2).toArray.size by rw [List.size_toArray, HL5.out]) (by simpa using OpV.cs_one (⟨d, a, DD, X⟩ : OpV) p2 c2) ?_; intro w7 hw7 hg7 hs7))
          have hz6 := hb6.size
          have hcf : cellsAt w7 (w.heap.size + 1) 0 ((⟨d, a, DD, X⟩ : OpV).cs p2 c2) := fun j u hj => by rw [cell_of_row _ _ _ _ _ _ hw7, Nat.zero_add]; simpa using hj
          have hbf : Below w.heap.size w w7 := (HB5.out.trans (hb6.mono (by omega))).grown hg7 (by omega) (fun k e => by have := Option.some.inj e; omega)
          have ho7 := (HO5.out.under hb6).keep (w' := w7) (fun g hg => by
            have h1 := HO5.out.lt hg
            exact hg7.block g (by omega) (fun e => by have := Option.some.inj e; omega))
          refine bodyPost_ret (results_cell_tmp rfl (by rfl) (run_loadAgg Tryd.underlying38 rfl (by rw [opInfo, HL5.out]) hcf)) rfl ⟨hbf, p2, c2, by rw [HNX.out]; rfl, by rw [HNX.out]; exact ho7.down (by omega)⟩
end Go.Proofs.YtfoifdhcelcgiaaDoor
