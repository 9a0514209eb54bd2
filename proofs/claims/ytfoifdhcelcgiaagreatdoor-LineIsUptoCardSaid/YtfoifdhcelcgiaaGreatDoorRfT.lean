/-
  What comes to a set, by the document.
-/
import Derived.Test.YtfoifdhcelcgiaaGreatDoorJj
namespace Go.Proofs.YtfoifdhcelcgiaaGreatDoor
open Go Go.RowKit

theorem opInfo3 : (Tryz.prog.info? 46).map (fun i => (i.zero, i.size, i.bytes)) = some (some (.agg (zeroOp.cs none 0).toArray), 38, 112) := by kernel_rfl
theorem atI_hasN (O : List E3) (n : Nm) : hasN (O.map E3.ent) n = decide (atI (O.map (·.n)) n ≥ 0) := by
  rw [Bool.eq_iff_iff, hasN_mem, decide_eq_true_iff]
  have := @atI_neg (O.map (·.n)) n
  constructor
  · intro h
    have h2 : ¬ atI (O.map (·.n)) n < 0 := fun h3 => this.1 h3 h
    omega
  · intro h
    rcases Decidable.em (n ∈ O.map (·.n)) with h1 | h1
    · exact h1
    · have := this.2 h1; omega
theorem mem_hasN (O : List E3) (n : Nm) : decide (n ∈ O.map (·.n)) = hasN (O.map E3.ent) n := by
  rw [Bool.eq_iff_iff, hasN_mem, decide_eq_true_iff]

theorem wpList_passed {P : Program} {ops : Array Oper} {w : World} {o : Oper} {rest : List Oper} {a : Act} {Q : Exit → Act → World → Prop} (hw : Region.wanted o (yielded ops a.tmps) = false) (h : wpList P ops Q rest (a.put o.dst undef) w) : wpList P ops Q (o :: rest) a w := by
  unfold wpList
  rw [if_neg (by rw [hw]; simp)]
  exact h
theorem wp_storeRow {P : Program} {w : World} {o : Oper} {a : Act} {Q : Exit → Act → World → Prop} {K : Act → World → Prop} (t : TypeId) (x v : Operand) (hop : o.op = .store t x v) {b : Nat} {cur : Array Value} {t' : TypeId} (hb : w.heap[b]? = some (.cells cur t' (0, 0)))
    (hx : a.eval x = .pointer (some ⟨b, 0, none⟩)) (cs : Array Value) (hv : a.eval v = .agg cs) (hi : (P.info? t).map (·.size) = some cs.size) (hs : cur.size = cs.size) (h1 : ∀ u ∈ cs.toList, u.oneCell' = true)
    (h : ∀ w', w'.heap[b]? = some (.cells cs t' (0, 0)) → w.grownBy w' (some b) → w'.heap.size = w.heap.size → K (a.put o.dst undef) w') : o.wp P a w K Q := by
  unfold Oper.wp execOp
  have hst : (storeCells ⟨b, 0, none⟩ cs.toList).run P w = .ok () (w.setRow b cs) := by
    have := run_storeCells_from (P := P) b t' cs.toList 0 cur w hb (by simp [hs]) h1
    simpa [hs] using this
  have hsv : (storeVar t ⟨b, 0, none⟩ (.agg cs)).run P w = .ok () (w.setRow b cs) := by
    unfold storeVar
    simp only [Sem.run_bind, sizeOf_of hi, Result.andThen, Value.cells, ne_eq, not_true_eq_false, if_false, hst]
  simp only [hop, hx, hv, Instr.storeAt, Instr.sureAddr, Sem.run_bind, Sem.run_pure, Result.andThen_ok, hsv]
  exact h _ (setRow_heap w b cur cs t' (0, 0) hb) ⟨rfl, rfl, rfl, by simp, fun k _ hk => setRow_other w b k _ (fun e => hk (by rw [e]))⟩ (by simp)
def waitLen (w : World) (b : Nat) : Nat := match w.cell? ⟨b, 1, none⟩ with | some (.slice _ n _) => n | _ => 0
theorem waitLen_eq {w : World} {b n c : Nat} {p : Option Addr} (h : w.cell? ⟨b, 1, none⟩ = some (.slice p n c)) : waitLen w b = n := by
  unfold waitLen
  rw [h]
def bestZ (l wait : List NOp) (m : Nat) : Int := match bestI l wait m with | none => -1 | some i => i
theorem bestZ_neg {l wait : List NOp} {m : Nat} (h : bestZ l wait m < 0) : bestI l wait m = none := by
  unfold bestZ at h
  cases hb : bestI l wait m with
  | none => rfl
  | some i => rw [hb] at h; simp only at h; omega
theorem bestZ_some {l wait : List NOp} {m : Nat} (h : ¬ bestZ l wait m < 0) : ∃ i, bestI l wait m = some i ∧ bestZ l wait m = (i : Int) := by
  unfold bestZ at h ⊢
  cases hb : bestI l wait m with
  | none => rw [hb] at h; exact absurd (by decide : (-1 : Int) < 0) h
  | some i => exact ⟨i, rfl, rfl⟩
theorem bestZ_succ {l wait : List NOp} {m : Nat} {e : NOp} (he : wait[m]? = some e) : bestZ l wait (m + 1) = if wholeB l e.2 && lessI wait (bestI l wait m) e then (m : Int) else bestZ l wait m := by
  unfold bestZ
  rw [bestI, he]
  simp only
  by_cases hc : (wholeB l e.2 && lessI wait (bestI l wait m) e) = true
  · rw [if_pos hc, if_pos hc]
  · rw [if_neg hc, if_neg hc]

set_option maxRecDepth 100000 in
set_option maxHeartbeats 40000000 in
theorem rtake_any (b : Nat) (vo vw vn vm : Value) (F B : Nat → Prop) (O W : List E3) (o : OpV) (ho : o.Ok) (p : Option Addr) (c : Nat) (w : World) (hT : Tabs w) (h : RefSet w b vo vw vn vm F B O W) (hI : DInv ⟨O.map E3.ent, W.map E3.ent⟩) (hs : Src w p (pcs o.preds)) (hp : ∀ i off, p = some ⟨i, off, none⟩ → o.preds ≠ [] → B i) (hN : O.length + W.length ≤ 900) :
    Calls Tryz.prog 36 #[.pointer (some ⟨b, 0, none⟩), .agg (o.cs p c).toArray] w fun e w' => ∃ v vo' vw' vn' vm' F' O' W', e = .returned (.tuple #[v, .int .i64 (takeD ⟨O.map E3.ent, W.map E3.ent⟩ o).2.2]) ∧
      O'.map E3.ent = (takeD ⟨O.map E3.ent, W.map E3.ent⟩ o).1.ops ∧ W'.map E3.ent = (takeD ⟨O.map E3.ent, W.map E3.ent⟩ o).1.wait ∧
      RefSet w' b vo' vw' vn' vm' F' B O' W' ∧ (∀ i, F' i → F i ∨ w.heap.size ≤ i) ∧ Owns w' w.heap.size 31 32 v (takeD ⟨O.map E3.ent, W.map E3.ent⟩ o).2.1.length (pcs (takeD ⟨O.map E3.ent, W.map E3.ent⟩ o).2.1) ∧ Keeps F w w' := by
  obtain ⟨i0, hi, hz0, hz1, hz2⟩ := info_parts idInfo3
  obtain ⟨io, hio, hoz0, hoz1, hoz2⟩ := info_parts opInfo3
  obtain ⟨hz, hid⟩ := info_two idInfo
  obtain ⟨hzo, _⟩ := info_two opZero
  have HZ := Lib.hid hz
  have HI := Lib.hid hid
  have HZO := Lib.hid hzo
  have HD := Lib.hid ho
  have HS := Lib.hid hs
  have HT := Lib.hid hT
  have HH := Lib.hid h
  have HIN := Lib.hid hI
  have HP := Lib.hid hp
  have HC := Lib.hid (OpV.cs_length ho p c)
  have HONE := Lib.hid (OpV.cs_one o p c)
  have hlen := ho.len
  have hblt := h.lt
  have HFL := Lib.hid h.flt
  obtain ⟨w1, hw1⟩ : ∃ w1, w1 = w.alloc (.cells (o.cs p c).toArray 46) := ⟨_, rfl⟩
  have hb1 : Below w.heap.size w w1 := by rw [hw1]; exact (Below.refl _ w).alloc (Nat.le_refl _) _
  have hat : cellsAt w1 w.heap.size 0 (o.cs p c) := by rw [hw1]; simpa using cellsAt_new w (o.cs p c).toArray 46
  have hz1' : w.heap.size < w1.heap.size := by rw [hw1]; simp
  have HAC1 := Lib.hid hat
  have HBw1 := Lib.hid hb1
  have hF0 : ¬ F w.heap.size := fun hf => by have := HFL.out _ hf; omega
  clear ho hs h hI hT hat hb1 hz hid hzo hp
  go_enter Tryz.func36, Tryz.ntmps36
  go_upto_region 1 with (first | (refine wpList_boxAgg _ rfl 46 _ rfl (o.cs p c).toArray (by rfl) ?_))
  rw [← hw1]
  clear hw1
  by_cases hg : o.Good
  · have hgb : decide o.Good = true := by simpa using hg
    go_upto_region 3 with (first
      | (refine wpList_loadAgg _ rfl 46 _ rfl _ Tryz.underlying46 rfl w.heap.size 0 (by rfl) (o.cs p c) (by rw [opInfo, HC.out]) HAC1.out ?_)
      | (go_at_call 65; refine (ropgood_any o HD.out p c w1 (HS.out.below HBw1.out (Nat.le_refl _))).mono ?_; rintro e w2 ⟨rfl, hb2⟩))
    clear hgb
    have HBw2 := Lib.hid (HBw1.out.trans (hb2.mono (by omega)))
    have HAC2 := Lib.hid (HAC1.out.of_block (hb2.block _ (by omega)))
    have hz2w := hb2.size
    clear hb2
    obtain ⟨nm, hnm⟩ : ∃ nm, nm = nameB o := ⟨_, rfl⟩
    have hcall := ropname_any o HD.out p c w2 (HT.out.of_below HBw2.out HT.out.2.2) (HS.out.below HBw2.out (Nat.le_refl _))
    rw [← hnm] at hcall
    have HCALL := Lib.hid hcall
    have HNM := Lib.hid (show nm.length = 32 by rw [hnm]; rfl)
    have HNMX := Lib.hid hnm
    have HZX := Lib.hid (show (fillB [] 32).size = (bcs nm).toArray.size by rw [show (bcs nm).toArray.size = (bcs nm).length from rfl, bcs_length, HNM.out]; rfl)
    clear hcall hnm
    go_upto_region 4 with (first
      | (refine wpList_loadAgg _ rfl 46 _ rfl _ Tryz.underlying46 rfl w.heap.size 0 (by rfl) (o.cs p c) (by rw [opInfo, HC.out]) HAC2.out ?_)
      | (go_at_call 17; refine HCALL.out.mono ?_; rintro e w3 ⟨rfl, hb3⟩)
      | (refine wpList_allocZ _ rfl 31 rfl _ HZ.out ?_)
      | (refine wpList_storeNew _ w3 rfl 31 _ _ rfl (fillB [] 32) rfl (by rfl) (bcs nm).toArray (by rfl) (by rw [HI.out, List.size_toArray, bcs_length, HNM.out]) HZX.out (by simpa using bcs_one nm) ?_))
    obtain ⟨k1, hk1⟩ : ∃ k, k = w3.heap.size := ⟨_, rfl⟩
    obtain ⟨w4, hw4⟩ : ∃ w4, w4 = w3.alloc (.cells (bcs nm).toArray 31) := ⟨_, rfl⟩
    rw [← hw4, ← hk1]
    have hb34 : Below w3.heap.size w3 w4 := by rw [hw4]; exact (Below.refl _ w3).alloc (Nat.le_refl _) _
    have HNCw4 := Lib.hid (show cellsAt w4 k1 0 (bcs nm) by rw [hw4, hk1]; simpa using cellsAt_new w3 (bcs nm).toArray 31)
    have hz4w : k1 < w4.heap.size := by rw [hw4, hk1]; simp
    have hz3w := hb3.size
    have hk1b : w2.heap.size ≤ k1 := by omega
    have HBw4 := Lib.hid (HBw2.out.trans ((hb3.trans (hb34.mono (by omega))).mono (by omega)))
    have HACw4 := Lib.hid (HAC2.out.of_block ((hb34.block _ (by omega)).trans (hb3.block _ (by omega))))
    have HHw4 := Lib.hid (HH.out.under HBw4.out)
    have hF1 : ¬ F k1 := fun hf => by have := HFL.out _ hf; omega
    clear hw4 hb34 hb3 hk1
    obtain ⟨AT, hAT⟩ : ∃ AT, AT = atI (O.map (·.n)) nm := ⟨_, rfl⟩
    have hcl := at_any b vo vw vn vm F B O W nm HNM.out w4 HHw4.out (by omega)
    rw [← hAT] at hcl
    have HCLA := Lib.hid hcl
    have HATN := Lib.hid (show hasN (O.map E3.ent) nm = decide (AT ≥ 0) by rw [hAT]; exact atI_hasN O nm)
    obtain ⟨bw, hbw⟩ : ∃ bw, bw = hasN (W.map E3.ent) nm := ⟨_, rfl⟩
    have HBWX := Lib.hid hbw
    have HWAIT := Lib.hid (show ∀ wx, RefSet wx b vo vw vn vm F B O W → Calls Tryz.prog 66 #[.pointer (some ⟨b, 0, none⟩), idv nm] wx fun e w' => e = .returned (.bool bw) ∧ Below wx.heap.size wx w' from fun wx hx => by
      have h1 := waiting_any b vo vw vn vm F B O W nm HNM.out wx hx (by omega)
      rw [mem_hasN, ← hbw] at h1
      exact h1)
    clear hcl hAT hbw
    by_cases hat0 : AT ≥ 0
    · have hd0 : decide (AT ≥ 0) = true := by simpa using hat0
      have hd1 : decide (0 ≤ AT) = true := by simpa using hat0
      have HTK := Lib.hid (show takeD ⟨O.map E3.ent, W.map E3.ent⟩ o = (⟨O.map E3.ent, W.map E3.ent⟩, [], 9) by
        unfold takeD
        rw [if_pos hg, ← HNMX.out]
        simp only
        rw [HATN.out, hd0, Bool.true_or, if_pos rfl])
      go_wp2_with (first
        | (refine wpList_loadAgg _ rfl 31 _ rfl _ Tryz.underlying31 rfl k1 0 (by rfl) (bcs nm) (by rw [HI.out, bcs_length, HNM.out]) HNCw4.out ?_)
        | (go_at_call 13; refine HCLA.out.mono ?_; rintro e w5 ⟨rfl, hb5⟩))
      have hb5' := HBw4.out.trans (hb5.mono (by omega))
      have hfin : ∃ v vo' vw' vn' vm' F' O' W', Ending.returned (.tuple #[.slice none 0 0, .int .i64 9]) = .returned (.tuple #[v, .int .i64 (takeD ⟨O.map E3.ent, W.map E3.ent⟩ o).2.2]) ∧
          O'.map E3.ent = (takeD ⟨O.map E3.ent, W.map E3.ent⟩ o).1.ops ∧ W'.map E3.ent = (takeD ⟨O.map E3.ent, W.map E3.ent⟩ o).1.wait ∧
          RefSet w5 b vo' vw' vn' vm' F' B O' W' ∧ (∀ i, F' i → F i ∨ w.heap.size ≤ i) ∧ Owns w5 w.heap.size 31 32 v (takeD ⟨O.map E3.ent, W.map E3.ent⟩ o).2.1.length (pcs (takeD ⟨O.map E3.ent, W.map E3.ent⟩ o).2.1) ∧ Keeps F w w5 := by
        rw [HTK.out]
        exact ⟨_, vo, vw, vn, vm, F, O, W, rfl, rfl, rfl, HH.out.under hb5', fun i hi => .inl hi, Owns.nil _ _ _ _, Keeps.of_below hb5'⟩
      have HFIN := Lib.hid hfin
      clear hfin
      refine bodyPost_ret (results_tmp2 rfl _ _ _) rfl ?_
      obtain ⟨v, a1, a2, a3, a4, a5, a6, a7, h1, h2, h3, h4, h5, h6, h7⟩ := HFIN.out
      first | exact HFIN.out | exact ⟨v, h1, a1, a2, a3, a4, a5, a6, h2, a7, h3, h4, h5, h6, h7⟩
    · have hd0 : decide (AT ≥ 0) = false := by simpa using hat0
      have hd1 : decide (0 ≤ AT) = false := by simpa using hat0
      have HNO := Lib.hid (show hasN (O.map E3.ent) nm = false by rw [HATN.out]; exact hd0)
      cases bw with
      | true =>
        have HTK := Lib.hid (show takeD ⟨O.map E3.ent, W.map E3.ent⟩ o = (⟨O.map E3.ent, W.map E3.ent⟩, [], 9) by
          unfold takeD
          rw [if_pos hg, ← HNMX.out]
          simp only
          rw [← HBWX.out, Bool.or_true, if_pos rfl])
        go_wp2_with (first
          | (refine wpList_loadAgg _ rfl 31 _ rfl _ Tryz.underlying31 rfl k1 0 (by rfl) (bcs nm) (by rw [HI.out, bcs_length, HNM.out]) HNCw4.out ?_)
          | (go_at_call 13; refine HCLA.out.mono ?_; rintro e w5 ⟨rfl, hb5⟩)
          | (refine wpList_taken (by rfl) ?_; refine wp_loadAgg 31 _ rfl _ Tryz.underlying31 rfl k1 0 (by rfl) (bcs nm) (by rw [HI.out, bcs_length, HNM.out]) (HNCw4.out.of_block (hb5.block _ (by omega))) ?_))
        refine (HWAIT.out w5 (HHw4.out.under hb5)).mono ?_
        rintro e w6 ⟨rfl, hb6⟩
        go_wp2
        have hb6' := HBw4.out.trans ((hb5.trans (hb6.mono hb5.size)).mono (by omega))
        have hfin : ∃ v vo' vw' vn' vm' F' O' W', Ending.returned (.tuple #[.slice none 0 0, .int .i64 9]) = .returned (.tuple #[v, .int .i64 (takeD ⟨O.map E3.ent, W.map E3.ent⟩ o).2.2]) ∧
            O'.map E3.ent = (takeD ⟨O.map E3.ent, W.map E3.ent⟩ o).1.ops ∧ W'.map E3.ent = (takeD ⟨O.map E3.ent, W.map E3.ent⟩ o).1.wait ∧
            RefSet w6 b vo' vw' vn' vm' F' B O' W' ∧ (∀ i, F' i → F i ∨ w.heap.size ≤ i) ∧ Owns w6 w.heap.size 31 32 v (takeD ⟨O.map E3.ent, W.map E3.ent⟩ o).2.1.length (pcs (takeD ⟨O.map E3.ent, W.map E3.ent⟩ o).2.1) ∧ Keeps F w w6 := by
          rw [HTK.out]
          exact ⟨_, vo, vw, vn, vm, F, O, W, rfl, rfl, rfl, HH.out.under hb6', fun i hi => .inl hi, Owns.nil _ _ _ _, Keeps.of_below hb6'⟩
        have HFIN := Lib.hid hfin
        clear hfin
        refine bodyPost_ret (results_tmp2 rfl _ _ _) rfl ?_
        obtain ⟨v, a1, a2, a3, a4, a5, a6, a7, h1, h2, h3, h4, h5, h6, h7⟩ := HFIN.out
        first | exact HFIN.out | exact ⟨v, h1, a1, a2, a3, a4, a5, a6, h2, a7, h3, h4, h5, h6, h7⟩
      | false =>
        go_upto_region 6 with (first
          | (refine wpList_loadAgg _ rfl 31 _ rfl _ Tryz.underlying31 rfl k1 0 (by rfl) (bcs nm) (by rw [HI.out, bcs_length, HNM.out]) HNCw4.out ?_)
          | (go_at_call 13; refine HCLA.out.mono ?_; rintro e w5 ⟨rfl, hb5⟩)
          | (refine wpList_taken (by rfl) ?_; refine wp_loadAgg 31 _ rfl _ Tryz.underlying31 rfl k1 0 (by rfl) (bcs nm) (by rw [HI.out, bcs_length, HNM.out]) (HNCw4.out.of_block (hb5.block _ (by omega))) ?_))
        refine (HWAIT.out w5 (HHw4.out.under hb5)).mono ?_
        rintro e w6 ⟨rfl, hb6⟩
        go_upto_region 6 with fail
        have hb46 := hb5.trans (hb6.mono hb5.size)
        have hz6 := hb46.size
        have HBw6 := Lib.hid (HBw4.out.trans (hb46.mono (by omega)))
        have HNCw6 := Lib.hid (HNCw4.out.of_block (hb46.block _ (by omega)))
        have HACw6 := Lib.hid (HACw4.out.of_block (hb46.block _ (by omega)))
        have HHw6 := Lib.hid (HH.out.under HBw6.out)
        clear hb5 hb6 hb46 hd0 hd1 hat0
        obtain ⟨wh, hwh⟩ : ∃ wh, wh = wholeB (O.map E3.ent) o := ⟨_, rfl⟩
        have hcw := whole_any b vo vw vn vm F B O W o HD.out p c w6 HHw6.out (by omega) (HS.out.below HBw6.out (Nat.le_refl _))
        rw [← hwh] at hcw
        have HCW := Lib.hid hcw
        have HWHX := Lib.hid hwh
        clear hcw hwh
        cases wh with
        | false =>
          go_upto_region 7 with (first
            | (refine wpList_loadAgg _ rfl 46 _ rfl _ Tryz.underlying46 rfl w.heap.size 0 (by rfl) (o.cs p c) (by rw [opInfo, HC.out]) HACw6.out ?_)
            | (go_at_call 67; refine HCW.out.mono ?_; rintro e w7 ⟨rfl, hb7⟩))
          have hz7 := hb7.size
          have HBw7 := Lib.hid (HBw6.out.trans (hb7.mono (by omega)))
          have HNCw7 := Lib.hid (HNCw6.out.of_block (hb7.block _ (by omega)))
          have HACw7 := Lib.hid (HACw6.out.of_block (hb7.block _ (by omega)))
          have HRw7 := Lib.hid ((HHw6.out.under hb7).raw)
          clear hb7
          go_upto_region 7 with fail
          refine wp_region_noPanic ?_
          refine wp_region_till 10 (fun w' => Keeps (fun i => (vw).ownBlock = some i) w7 w') (by kernel_rfl) (by kernel_rfl) ?_
          obtain ⟨wAA, hwAA⟩ : ∃ wA, wA = w7.drew := ⟨_, rfl⟩
          have HBAA := Lib.hid (show Below w7.heap.size w7 wAA by rw [hwAA]; exact (Below.refl _ w7).drew)
          have HSAA := Lib.hid (show Keeps (fun i => (vw).ownBlock = some i) w7 wAA from Keeps.of_below HBAA.out)
          rw [← hwAA]
          have hzAA : w7.heap.size ≤ wAA.heap.size := HBAA.out.size
          clear hwAA
          have hblA : w.heap.size < w7.heap.size := by omega
          have hbbA : b < w7.heap.size := HRw7.out.lt
          have HNBA := Lib.hid (show (vw).ownBlock ≠ some b from HRw7.out.ne1)
          have HNKA := Lib.hid (show (vw).ownBlock ≠ some (w.heap.size) from fun e => hF0 (HRw7.out.fw _ e))
          go_simp
          refine Till.pure 0 rfl rfl (by kernel_rfl) (NoPanic.noFrame _) HSAA.out ?_
          go_big_quiet_step (fail)
          refine wpQuiet_nil ?_
          refine Till.pure 1 rfl rfl (by kernel_rfl) (NoPanic.noFrame _) HSAA.out ?_
          go_big_quiet_step (fail)
          refine wpQuiet_nil ?_
          refine Till.pure 2 rfl rfl (by kernel_rfl) (NoPanic.noFrame _) HSAA.out ?_
          go_big_quiet_step (fail)
          refine wpQuiet_nil ?_
          refine Till.pure 3 rfl rfl (by kernel_rfl) (NoPanic.noFrame _) HSAA.out ?_
          go_big_quiet_step (fail)
          refine wpQuiet_nil ?_
          refine Till.load 4 35 _ ⟨b, 1, none⟩ (vw) rfl rfl rfl rfl (by kernel_rfl) (NoPanic.noFrame _) HSAA.out (fun w' hw' => run_loadVar_one Tryz.underlying35 rfl ((cell_eq (hw'.block b hbbA HNBA.out) 1).trans HRw7.out.c1)) ?_
          go_simp
          refine Till.load 5 46 _ ⟨w.heap.size, 0, none⟩ (.agg (o.cs p c).toArray) rfl rfl rfl rfl (by kernel_rfl) (NoPanic.noFrame _) HSAA.out (fun w' hw' => run_loadAgg Tryz.underlying46 rfl (by rw [opInfo, HC.out]) (HACw7.out.of_block (hw'.block _ hblA HNKA.out))) ?_
          go_simp
          refine Till.act 6 rfl rfl (by kernel_rfl) rfl ?_
          intro K hK
          refine wp_buildOne 35 _ rfl 46 38 _ Tryz.underlying35 opInfo (by omega) (by omega) HZO.out (o.cs p c).toArray (by rfl) (by rw [List.size_toArray, HC.out]) ?_
          have hSBA : Keeps (fun i => (vw).ownBlock = some i) w7 (wAA.alloc (.cells (o.cs p c).toArray 46)) := HSAA.out.trans (Keeps.of_below ((Below.refl _ wAA).alloc (Nat.le_refl _) _))
          refine hK _ _ hSBA ?_
          clear hK K
          refine Till.act 7 rfl rfl (by kernel_rfl) rfl ?_
          intro K hK
          have hoBA : Owns (wAA.alloc (.cells (o.cs p c).toArray 46)) 0 46 38 (vw) (W.length) (ocs W) := by simpa using (HRw7.out.wait.under HBAA.out).alloc (.cells (o.cs p c).toArray 46)
          refine wp_append_G _ _ 35 rfl 0 46 io _ 38 112 Tryz.underlying35 hio hoz0 hoz1 hoz2 (by rfl) (by omega) (vw) (W.length) (ocs W) (by rfl) hoBA (some ⟨wAA.heap.size, 0, none⟩) 1 1 (o.cs p c) (by rfl) (by rw [HC.out]) (src_new wAA (o.cs p c) 46) (fun a e => by cases e; rfl) (HONE.out) (by unfold maxLen; omega) (by omega) (Nat.zero_le _) ?_
          intro vA w8A hownA hgA hatA
          obtain ⟨pA, cA, rfl⟩ := hownA.form
          have hz8A := hgA.size
          rw [World.size_alloc] at hz8A hatA
          have hSCA : Keeps (fun i => (vw).ownBlock = some i) w7 w8A := hSBA.trans ⟨hgA.os, hgA.tape, hgA.output, hgA.size, fun i hi hs => hgA.block i hi (fun e => hs e.symm)⟩
          refine hK _ _ hSCA ?_
          clear hK K
          have HSCA := Lib.hid hSCA
          have HOWA := Lib.hid hownA
          have HATA := Lib.hid (show ∀ g, (Value.slice pA (W.length + 1) cA).ownBlock = some g → (vw).ownBlock = some g ∨ w7.heap.size ≤ g from fun g hg => by
            rcases hatA with h | h
            · exact .inl (h ▸ hg)
            · rw [h] at hg
              have := Option.some.inj hg
              exact .inr (by omega))
          clear hSBA hoBA hownA hgA hatA hSCA
          go_simp
          refine Till.pure 8 rfl rfl (by kernel_rfl) (NoPanic.noFrame _) HSCA.out ?_
          go_big_quiet_step (fail)
          refine wpQuiet_nil ?_
          refine Till.pure 9 rfl rfl (by kernel_rfl) (NoPanic.noFrame _) HSCA.out ?_
          go_big_quiet_step (fail)
          refine wpQuiet_nil ?_
          refine Till.tail _ rfl rfl (by kernel_rfl) (by kernel_rfl) ?_
          have hbxA := (HSCA.out.block b hbbA HNBA.out).trans HRw7.out.box
          have hcbA : w8A.cell? ⟨b, 1, none⟩ = some (vw) := by simp [World.cell?, hbxA]
          have hfbA : w8A.frozen? ⟨b, 1, none⟩ = false := by simp [World.frozen?, hbxA]
          have HBXA := Lib.hid hbxA
          clear hbxA
          go_wp2
          refine NoPanic.normal ?_
          clear hcbA hfbA
          obtain ⟨w9, hw9⟩ : ∃ w9, w9 = w8A.setCell ⟨b, 1, none⟩ (Value.slice pA (W.length + 1) cA) := ⟨_, rfl⟩
          rw [← hw9]
          have hg9A : w8A.grownBy w9 (some b) := by rw [hw9]; exact grownBy_set _ _ _ _
          have hb9A : w9.heap[b]? = some (.cells #[vo, (Value.slice pA (W.length + 1) cA), vn, vm] 37 (0, 0)) := by
            rw [hw9, setCell_eq_setRow w8A b 1 _ _ (0, 0) _ HBXA.out, setRow_heap w8A b _ _ _ (0, 0) HBXA.out]
            rfl
          have hz9A := hg9A.size
          have HKw9 := Lib.hid (show Keeps (fun i => i = b ∨ (vw).ownBlock = some i) w7 w9 from (HSCA.out.mono (fun i hi => .inr hi)).trans (Keeps.of_grown hg9A (S := fun i => i = b ∨ (vw).ownBlock = some i) (.inl rfl)))
          have ho9A := HOWA.out.keep (w' := w9) (fun g hg => hg9A.block g (HOWA.out.lt hg).2 (fun e => by
            have e' : b = g := (Option.some.inj e).symm
            rcases HATA.out g hg with h1 | h1
            · exact HNBA.out (e' ▸ h1)
            · omega))
          have hokA : ∀ e ∈ W ++ [(⟨nm, o, p, c⟩ : E3)], e.Ok w9 B := by
            have hSF : ∀ i, (i = b ∨ (vw).ownBlock = some i) → F i := fun i hi => hi.elim (fun e => e ▸ HRw7.out.fb) (HRw7.out.fw i)
            intro e he
            rcases List.mem_append.1 he with he | he
            · exact HRw7.out.ok' HKw9.out hSF (fun e he => .inr he) e he
            · rw [List.mem_singleton.1 he]
              refine E3.Ok.ok' (B := B) (S := fun i => i = b ∨ (vw).ownBlock = some i) (⟨HD.out, HNM.out, HS.out.below HBw7.out (Nat.le_refl _), HP.out⟩ : E3.Ok w7 B (⟨nm, o, p, c⟩ : E3)) HKw9.out (fun i off e1 hne e2 => HRw7.out.apart i (hSF i e2) ((⟨HD.out, HNM.out, HS.out.below HBw7.out (Nat.le_refl _), HP.out⟩ : E3.Ok w7 B (⟨nm, o, p, c⟩ : E3)).at_ i off e1 hne))
          have hoNA : Owns w9 0 46 38 (Value.slice pA (W.length + 1) cA) (W ++ [(⟨nm, o, p, c⟩ : E3)]).length (ocs (W ++ [(⟨nm, o, p, c⟩ : E3)])) := by
            rw [← (show W.length + 1 = (W ++ [(⟨nm, o, p, c⟩ : E3)]).length by simp), ← (show ocs W ++ o.cs p c = ocs (W ++ [(⟨nm, o, p, c⟩ : E3)]) by simp [ocs, E3.cs])]
            exact ho9A
          have HRw9 := Lib.hid (HRw7.out.set1 HKw9.out (fun i hi => hi) hb9A hoNA HATA.out hokA)
          have hF0A : ¬ (withOwn F (Value.slice pA (W.length + 1) cA)) w.heap.size := fun hf => hf.elim hF0 (fun e => (HATA.out _ e).elim (fun e2 => hF0 (HRw7.out.fw _ e2)) (fun e2 => by omega))
          have hF1A : ¬ (withOwn F (Value.slice pA (W.length + 1) cA)) k1 := fun hf => hf.elim hF1 (fun e => (HATA.out _ e).elim (fun e2 => hF1 (HRw7.out.fw _ e2)) (fun e2 => by omega))
          clear hoNA
          clear hw9 hg9A hb9A ho9A
          have HNCw9 := Lib.hid (HNCw7.out.of_block (HKw9.out.block k1 (by omega) (fun e => e.elim (fun e => hF1 (e ▸ HRw7.out.fb)) (fun e => hF1 (HRw7.out.fw _ e)))))
          have hk19 : k1 < w9.heap.size := by omega
          have HFL9 := Lib.hid (show w.heap.size ≤ w9.heap.size by omega)
          go_upto_region 8 with fail
          refine wp_region_noPanic ?_
          refine wp_region_till 10 (fun w' => Keeps (fun i => (vm).ownBlock = some i) w9 w') (by kernel_rfl) (by kernel_rfl) ?_
          obtain ⟨wAB, hwAB⟩ : ∃ wA, wA = w9.drew := ⟨_, rfl⟩
          have HBAB := Lib.hid (show Below w9.heap.size w9 wAB by rw [hwAB]; exact (Below.refl _ w9).drew)
          have HSAB := Lib.hid (show Keeps (fun i => (vm).ownBlock = some i) w9 wAB from Keeps.of_below HBAB.out)
          rw [← hwAB]
          have hzAB : w9.heap.size ≤ wAB.heap.size := HBAB.out.size
          clear hwAB
          have hblB : k1 < w9.heap.size := by omega
          have hbbB : b < w9.heap.size := HRw9.out.lt
          have HNBB := Lib.hid (show (vm).ownBlock ≠ some b from HRw9.out.ne3)
          have HNKB := Lib.hid (show (vm).ownBlock ≠ some (k1) from fun e => hF1A (HRw9.out.fm _ e))
          go_simp
          refine Till.pure 0 rfl rfl (by kernel_rfl) (NoPanic.noFrame _) HSAB.out ?_
          go_big_quiet_step (fail)
          refine wpQuiet_nil ?_
          refine Till.pure 1 rfl rfl (by kernel_rfl) (NoPanic.noFrame _) HSAB.out ?_
          go_big_quiet_step (fail)
          refine wpQuiet_nil ?_
          refine Till.pure 2 rfl rfl (by kernel_rfl) (NoPanic.noFrame _) HSAB.out ?_
          go_big_quiet_step (fail)
          refine wpQuiet_nil ?_
          refine Till.pure 3 rfl rfl (by kernel_rfl) (NoPanic.noFrame _) HSAB.out ?_
          go_big_quiet_step (fail)
          refine wpQuiet_nil ?_
          refine Till.load 4 28 _ ⟨b, 3, none⟩ (vm) rfl rfl rfl rfl (by kernel_rfl) (NoPanic.noFrame _) HSAB.out (fun w' hw' => run_loadVar_one Tryz.underlying28 rfl ((cell_eq (hw'.block b hbbB HNBB.out) 3).trans HRw9.out.c3)) ?_
          go_simp
          refine Till.load 5 31 _ ⟨k1, 0, none⟩ (.agg (bcs nm).toArray) rfl rfl rfl rfl (by kernel_rfl) (NoPanic.noFrame _) HSAB.out (fun w' hw' => run_loadAgg Tryz.underlying31 rfl (by rw [HI.out, bcs_length, HNM.out]) (HNCw9.out.of_block (hw'.block _ hblB HNKB.out))) ?_
          go_simp
          refine Till.act 6 rfl rfl (by kernel_rfl) rfl ?_
          intro K hK
          refine wp_buildOne 28 _ rfl 31 32 _ Tryz.underlying28 HI.out (by omega) (by omega) HZ.out (bcs nm).toArray (by rfl) (by rw [List.size_toArray, bcs_length, HNM.out]) ?_
          have hSBB : Keeps (fun i => (vm).ownBlock = some i) w9 (wAB.alloc (.cells (bcs nm).toArray 31)) := HSAB.out.trans (Keeps.of_below ((Below.refl _ wAB).alloc (Nat.le_refl _) _))
          refine hK _ _ hSBB ?_
          clear hK K
          refine Till.act 7 rfl rfl (by kernel_rfl) rfl ?_
          intro K hK
          have hoBB : Owns (wAB.alloc (.cells (bcs nm).toArray 31)) 0 31 32 (vm) (W.length) (pcs (W.map (·.n))) := by simpa using (HRw9.out.waits.under HBAB.out).alloc (.cells (bcs nm).toArray 31)
          refine wp_append_G _ _ 28 rfl 0 31 i0 _ 32 32 Tryz.underlying28 hi hz0 hz1 hz2 (by rfl) (by omega) (vm) (W.length) (pcs (W.map (·.n))) (by rfl) hoBB (some ⟨wAB.heap.size, 0, none⟩) 1 1 (bcs nm) (by rfl) (by rw [bcs_length, HNM.out]) (src_new wAB (bcs nm) 31) (fun a e => by cases e; rfl) (bcs_one nm) (by unfold maxLen; omega) (by omega) (Nat.zero_le _) ?_
          intro vB w8B hownB hgB hatB
          obtain ⟨pB, cB, rfl⟩ := hownB.form
          have hz8B := hgB.size
          rw [World.size_alloc] at hz8B hatB
          have hSCB : Keeps (fun i => (vm).ownBlock = some i) w9 w8B := hSBB.trans ⟨hgB.os, hgB.tape, hgB.output, hgB.size, fun i hi hs => hgB.block i hi (fun e => hs e.symm)⟩
          refine hK _ _ hSCB ?_
          clear hK K
          have HSCB := Lib.hid hSCB
          have HOWB := Lib.hid hownB
          have HATB := Lib.hid (show ∀ g, (Value.slice pB (W.length + 1) cB).ownBlock = some g → (vm).ownBlock = some g ∨ w9.heap.size ≤ g from fun g hg => by
            rcases hatB with h | h
            · exact .inl (h ▸ hg)
            · rw [h] at hg
              have := Option.some.inj hg
              exact .inr (by omega))
          clear hSBB hoBB hownB hgB hatB hSCB
          go_simp
          refine Till.pure 8 rfl rfl (by kernel_rfl) (NoPanic.noFrame _) HSCB.out ?_
          go_big_quiet_step (fail)
          refine wpQuiet_nil ?_
          refine Till.pure 9 rfl rfl (by kernel_rfl) (NoPanic.noFrame _) HSCB.out ?_
          go_big_quiet_step (fail)
          refine wpQuiet_nil ?_
          refine Till.tail _ rfl rfl (by kernel_rfl) (by kernel_rfl) ?_
          have hbxB := (HSCB.out.block b hbbB HNBB.out).trans HRw9.out.box
          have hcbB : w8B.cell? ⟨b, 3, none⟩ = some (vm) := by simp [World.cell?, hbxB]
          have hfbB : w8B.frozen? ⟨b, 3, none⟩ = false := by simp [World.frozen?, hbxB]
          have HBXB := Lib.hid hbxB
          clear hbxB
          go_wp2
          refine NoPanic.normal ?_
          clear hcbB hfbB
          obtain ⟨w11, hw11⟩ : ∃ w9, w9 = w8B.setCell ⟨b, 3, none⟩ (Value.slice pB (W.length + 1) cB) := ⟨_, rfl⟩
          rw [← hw11]
          have hg9B : w8B.grownBy w11 (some b) := by rw [hw11]; exact grownBy_set _ _ _ _
          have hb9B : w11.heap[b]? = some (.cells #[vo, (Value.slice pA (W.length + 1) cA), vn, (Value.slice pB (W.length + 1) cB)] 37 (0, 0)) := by
            rw [hw11, setCell_eq_setRow w8B b 3 _ _ (0, 0) _ HBXB.out, setRow_heap w8B b _ _ _ (0, 0) HBXB.out]
            rfl
          have hz9B := hg9B.size
          have HKw11 := Lib.hid (show Keeps (fun i => i = b ∨ (vm).ownBlock = some i) w9 w11 from (HSCB.out.mono (fun i hi => .inr hi)).trans (Keeps.of_grown hg9B (S := fun i => i = b ∨ (vm).ownBlock = some i) (.inl rfl)))
          have ho9B := HOWB.out.keep (w' := w11) (fun g hg => hg9B.block g (HOWB.out.lt hg).2 (fun e => by
            have e' : b = g := (Option.some.inj e).symm
            rcases HATB.out g hg with h1 | h1
            · exact HNBB.out (e' ▸ h1)
            · omega))
          have h32B : ∀ x ∈ W.map (·.n) ++ [nm], x.length = 32 := fun x hx => by
            rcases List.mem_append.1 hx with hx | hx
            · exact HRw9.out.m32 x hx
            · rw [List.mem_singleton.1 hx]; exact HNM.out
          have hoNB : Owns w11 0 31 32 (Value.slice pB (W.length + 1) cB) (W.map (·.n) ++ [nm]).length (pcs (W.map (·.n) ++ [nm])) := by
            rw [← (show W.length + 1 = (W.map (·.n) ++ [nm]).length by simp), ← (show pcs (W.map (·.n)) ++ bcs nm = pcs (W.map (·.n) ++ [nm]) by simp [pcs])]
            exact ho9B
          have HRw11 := Lib.hid (HRw9.out.set3 HKw11.out (fun i hi => hi) hb9B hoNB HATB.out h32B)
          have hF0B : ¬ (withOwn (withOwn F (Value.slice pA (W.length + 1) cA)) (Value.slice pB (W.length + 1) cB)) w.heap.size := fun hf => hf.elim hF0A (fun e => (HATB.out _ e).elim (fun e2 => hF0A (HRw9.out.fm _ e2)) (fun e2 => by omega))
          have hF1B : ¬ (withOwn (withOwn F (Value.slice pA (W.length + 1) cA)) (Value.slice pB (W.length + 1) cB)) k1 := fun hf => hf.elim hF1A (fun e => (HATB.out _ e).elim (fun e2 => hF1A (HRw9.out.fm _ e2)) (fun e2 => by omega))
          clear hoNB
          clear hw11 hg9B hb9B ho9B
          have HSET := Lib.hid (show RefSet w11 b vo (Value.slice pA (W.length + 1) cA) vn (Value.slice pB (W.length + 1) cB) (withOwn (withOwn F (Value.slice pA (W.length + 1) cA)) (Value.slice pB (W.length + 1) cB)) B O (W ++ [(⟨nm, o, p, c⟩ : E3)]) from RefRaw.set (by simpa using HRw11.out))
          have HTK := Lib.hid (show takeD ⟨O.map E3.ent, W.map E3.ent⟩ o = (⟨O.map E3.ent, W.map E3.ent ++ [(nm, o)]⟩, [], 0) by
            unfold takeD
            rw [if_pos hg, ← HNMX.out]
            simp only
            rw [HNO.out, ← HBWX.out, ← HWHX.out, if_neg (by simp), if_pos rfl])
          have HKF := Lib.hid (show Keeps F w w11 from (Keeps.of_below HBw7.out).trans ((HKw9.out.mono (T := F) (fun i hi => hi.elim (fun e => e ▸ HRw7.out.fb) (HRw7.out.fw i))).trans' HKw11.out (fun i hi => by
            rcases hi with rfl | hi
            · exact .inl HRw7.out.fb
            · exact .inl (HRw7.out.fm i hi))))
          have HFN := Lib.hid (show ∀ i, withOwn (withOwn F (Value.slice pA (W.length + 1) cA)) (Value.slice pB (W.length + 1) cB) i → F i ∨ w.heap.size ≤ i from fun i hi => by
            rcases hi with (hi | hi) | hi
            · exact .inl hi
            · rcases HATA.out i hi with h | h
              · exact .inl (HRw7.out.fw i h)
              · exact .inr (by omega)
            · rcases HATB.out i hi with h | h
              · exact .inl (HRw7.out.fm i h)
              · exact .inr (by omega))
          have hfin : ∃ v vo' vw' vn' vm' F' O' W', Ending.returned (.tuple #[.slice none 0 0, .int .i64 0]) = .returned (.tuple #[v, .int .i64 (takeD ⟨O.map E3.ent, W.map E3.ent⟩ o).2.2]) ∧
              O'.map E3.ent = (takeD ⟨O.map E3.ent, W.map E3.ent⟩ o).1.ops ∧ W'.map E3.ent = (takeD ⟨O.map E3.ent, W.map E3.ent⟩ o).1.wait ∧
              RefSet w11 b vo' vw' vn' vm' F' B O' W' ∧ (∀ i, F' i → F i ∨ w.heap.size ≤ i) ∧ Owns w11 w.heap.size 31 32 v (takeD ⟨O.map E3.ent, W.map E3.ent⟩ o).2.1.length (pcs (takeD ⟨O.map E3.ent, W.map E3.ent⟩ o).2.1) ∧ Keeps F w w11 := by
            rw [HTK.out]
            exact ⟨_, vo, (Value.slice pA (W.length + 1) cA), vn, (Value.slice pB (W.length + 1) cB), (withOwn (withOwn F (Value.slice pA (W.length + 1) cA)) (Value.slice pB (W.length + 1) cB)), O, (W ++ [(⟨nm, o, p, c⟩ : E3)]), rfl, by simp, by simp [E3.ent], HSET.out, HFN.out, Owns.nil _ _ _ _, HKF.out⟩
          have HFIN := Lib.hid hfin
          clear hfin
          go_wp2
          refine bodyPost_ret (results_tmp2 rfl _ _ _) rfl ?_
          obtain ⟨v, a1, a2, a3, a4, a5, a6, a7, h1, h2, h3, h4, h5, h6, h7⟩ := HFIN.out
          first | exact HFIN.out | exact ⟨v, h1, a1, a2, a3, a4, a5, a6, h2, a7, h3, h4, h5, h6, h7⟩
        | true =>
          go_upto_region 10 with (first
            | (refine wpList_loadAgg _ rfl 46 _ rfl _ Tryz.underlying46 rfl w.heap.size 0 (by rfl) (o.cs p c) (by rw [opInfo, HC.out]) HACw6.out ?_)
            | (go_at_call 67; refine HCW.out.mono ?_; rintro e w7 ⟨rfl, hb7⟩))
          have hz7 := hb7.size
          have HBw7 := Lib.hid (HBw6.out.trans (hb7.mono (by omega)))
          have HNCw7 := Lib.hid (HNCw6.out.of_block (hb7.block _ (by omega)))
          have HACw7 := Lib.hid (HACw6.out.of_block (hb7.block _ (by omega)))
          have HHw7 := Lib.hid (HHw6.out.under hb7)
          clear hb7
          go_upto_region 10 with fail
          obtain ⟨NE, hNEa, hNEb⟩ : ∃ n, w7.heap.size ≤ n ∧ n ≤ w7.heap.size := ⟨_, Nat.le_refl _, Nat.le_refl _⟩
          obtain ⟨DDE, hDDE⟩ : ∃ DD, DD = depthOf (O.map E3.ent) (o) := ⟨_, rfl⟩
          have HDDE := Lib.hid hDDE
          clear hDDE
          refine wp_region_noPanic ?_
          refine wp_region_till 5 (fun w' => Below NE w7 w') (by kernel_rfl) (by kernel_rfl) ?_
          obtain ⟨wAE, hwAE⟩ : ∃ wAE, wAE = w7.drew := ⟨_, rfl⟩
          have hSwAE : Below NE w7 wAE := by rw [hwAE]; exact (Below.refl NE w7).drew
          rw [← hwAE]
          have HSE := Lib.hid hSwAE
          have hzwAE : w7.heap.size ≤ wAE.heap.size := by rw [hwAE]; exact Nat.le_refl _
          clear hwAE hSwAE
          go_simp
          refine Till.pure 0 rfl rfl (by kernel_rfl) (NoPanic.noFrame _) HSE.out ?_
          go_big_quiet_step (fail)
          refine wpQuiet_nil ?_
          refine Till.load 1 3 _ ⟨w.heap.size, 36, none⟩ (.int .i64 o.depth) rfl rfl rfl rfl (by kernel_rfl) (NoPanic.noFrame _) HSE.out (fun w' hw' => run_loadVar_one Tryz.underlying3 rfl (OpV.cs_at HD.out (HACw7.out.of_block (hw'.block _ (by omega)))).2.1) ?_
          go_simp
          refine Till.pure 2 rfl rfl (by kernel_rfl) (NoPanic.noFrame _) HSE.out ?_
          go_big_quiet_step (fail)
          refine wpQuiet_nil ?_
          refine Till.load 3 46 _ ⟨w.heap.size, 0, none⟩ (.agg (o.cs p c).toArray) rfl rfl rfl rfl (by kernel_rfl) (NoPanic.noFrame _) HSE.out (fun w' hw' => run_loadAgg Tryz.underlying46 rfl (by rw [opInfo, HC.out]) (HACw7.out.of_block (hw'.block _ (by omega)))) ?_
          go_simp
          refine Till.act 4 rfl rfl (by kernel_rfl) rfl ?_
          intro K hK
          have hcd := rdepth_any b vo vw vn vm F B O W o HD.out p c wAE (HHw7.out.below HSE.out hNEa) (by omega) ((HS.out.below HBw7.out (Nat.le_refl _)).below (HSE.out.mono hNEa) (Nat.le_refl _)) HWHX.out.symm
          rw [← HDDE.out] at hcd
          go_wp2_with (first | (go_at_call 68; refine hcd.mono ?_; rintro e w8E ⟨rfl, hb8E⟩))
          have hz8E := hb8E.size
          refine hK _ _ (HSE.out.trans (hb8E.mono (by omega))) ?_
          clear hK K hcd
          have HB8E := Lib.hid ((HSE.out.mono hNEa).trans (hb8E.mono (by omega)))
          clear hb8E
          refine Till.tail _ rfl rfl (by kernel_rfl) (by kernel_rfl) ?_
          have HBw8 := Lib.hid (HBw7.out.trans (HB8E.out.mono (by omega)))
          by_cases hdep : o.depth = DDE
          · have hdb : (o.depth != DDE) = false := by simp [hdep]
            have HDEP := Lib.hid hdep
            go_wp2
            refine NoPanic.normal ?_
            go_upto_region 12 with fail
            clear hdb hdep
            have HNCw8 := Lib.hid (HNCw7.out.of_block (HB8E.out.block _ (by omega)))
            have HACw8 := Lib.hid (HACw7.out.of_block (HB8E.out.block _ (by omega)))
            have HRw8E := Lib.hid ((HHw7.out.under HB8E.out).raw)
            have hz87 := HB8E.out.size
            go_upto_region 12 with fail
            refine wp_region_noPanic ?_
            refine wp_region_till 10 (fun w' => Keeps (fun i => (vo).ownBlock = some i) w8E w') (by kernel_rfl) (by kernel_rfl) ?_
            obtain ⟨wAC, hwAC⟩ : ∃ wA, wA = w8E.drew := ⟨_, rfl⟩
            have HBAC := Lib.hid (show Below w8E.heap.size w8E wAC by rw [hwAC]; exact (Below.refl _ w8E).drew)
            have HSAC := Lib.hid (show Keeps (fun i => (vo).ownBlock = some i) w8E wAC from Keeps.of_below HBAC.out)
            rw [← hwAC]
            have hzAC : w8E.heap.size ≤ wAC.heap.size := HBAC.out.size
            clear hwAC
            have hblC : w.heap.size < w8E.heap.size := by omega
            have hbbC : b < w8E.heap.size := HRw8E.out.lt
            have HNBC := Lib.hid (show (vo).ownBlock ≠ some b from HRw8E.out.ne0)
            have HNKC := Lib.hid (show (vo).ownBlock ≠ some (w.heap.size) from fun e => hF0 (HRw8E.out.fo _ e))
            go_simp
            refine Till.pure 0 rfl rfl (by kernel_rfl) (NoPanic.noFrame _) HSAC.out ?_
            go_big_quiet_step (fail)
            refine wpQuiet_nil ?_
            refine Till.pure 1 rfl rfl (by kernel_rfl) (NoPanic.noFrame _) HSAC.out ?_
            go_big_quiet_step (fail)
            refine wpQuiet_nil ?_
            refine Till.pure 2 rfl rfl (by kernel_rfl) (NoPanic.noFrame _) HSAC.out ?_
            go_big_quiet_step (fail)
            refine wpQuiet_nil ?_
            refine Till.pure 3 rfl rfl (by kernel_rfl) (NoPanic.noFrame _) HSAC.out ?_
            go_big_quiet_step (fail)
            refine wpQuiet_nil ?_
            refine Till.load 4 35 _ ⟨b, 0, none⟩ (vo) rfl rfl rfl rfl (by kernel_rfl) (NoPanic.noFrame _) HSAC.out (fun w' hw' => run_loadVar_one Tryz.underlying35 rfl ((cell_eq (hw'.block b hbbC HNBC.out) 0).trans HRw8E.out.c0)) ?_
            go_simp
            refine Till.load 5 46 _ ⟨w.heap.size, 0, none⟩ (.agg (o.cs p c).toArray) rfl rfl rfl rfl (by kernel_rfl) (NoPanic.noFrame _) HSAC.out (fun w' hw' => run_loadAgg Tryz.underlying46 rfl (by rw [opInfo, HC.out]) (HACw8.out.of_block (hw'.block _ hblC HNKC.out))) ?_
            go_simp
            refine Till.act 6 rfl rfl (by kernel_rfl) rfl ?_
            intro K hK
            refine wp_buildOne 35 _ rfl 46 38 _ Tryz.underlying35 opInfo (by omega) (by omega) HZO.out (o.cs p c).toArray (by rfl) (by rw [List.size_toArray, HC.out]) ?_
            have hSBC : Keeps (fun i => (vo).ownBlock = some i) w8E (wAC.alloc (.cells (o.cs p c).toArray 46)) := HSAC.out.trans (Keeps.of_below ((Below.refl _ wAC).alloc (Nat.le_refl _) _))
            refine hK _ _ hSBC ?_
            clear hK K
            refine Till.act 7 rfl rfl (by kernel_rfl) rfl ?_
            intro K hK
            have hoBC : Owns (wAC.alloc (.cells (o.cs p c).toArray 46)) 0 46 38 (vo) (O.length) (ocs O) := by simpa using (HRw8E.out.ops.under HBAC.out).alloc (.cells (o.cs p c).toArray 46)
            refine wp_append_G _ _ 35 rfl 0 46 io _ 38 112 Tryz.underlying35 hio hoz0 hoz1 hoz2 (by rfl) (by omega) (vo) (O.length) (ocs O) (by rfl) hoBC (some ⟨wAC.heap.size, 0, none⟩) 1 1 (o.cs p c) (by rfl) (by rw [HC.out]) (src_new wAC (o.cs p c) 46) (fun a e => by cases e; rfl) (HONE.out) (by unfold maxLen; omega) (by omega) (Nat.zero_le _) ?_
            intro vC w8C hownC hgC hatC
            obtain ⟨pC, cC, rfl⟩ := hownC.form
            have hz8C := hgC.size
            rw [World.size_alloc] at hz8C hatC
            have hSCC : Keeps (fun i => (vo).ownBlock = some i) w8E w8C := hSBC.trans ⟨hgC.os, hgC.tape, hgC.output, hgC.size, fun i hi hs => hgC.block i hi (fun e => hs e.symm)⟩
            refine hK _ _ hSCC ?_
            clear hK K
            have HSCC := Lib.hid hSCC
            have HOWC := Lib.hid hownC
            have HATC := Lib.hid (show ∀ g, (Value.slice pC (O.length + 1) cC).ownBlock = some g → (vo).ownBlock = some g ∨ w8E.heap.size ≤ g from fun g hg => by
              rcases hatC with h | h
              · exact .inl (h ▸ hg)
              · rw [h] at hg
                have := Option.some.inj hg
                exact .inr (by omega))
            clear hSBC hoBC hownC hgC hatC hSCC
            go_simp
            refine Till.pure 8 rfl rfl (by kernel_rfl) (NoPanic.noFrame _) HSCC.out ?_
            go_big_quiet_step (fail)
            refine wpQuiet_nil ?_
            refine Till.pure 9 rfl rfl (by kernel_rfl) (NoPanic.noFrame _) HSCC.out ?_
            go_big_quiet_step (fail)
            refine wpQuiet_nil ?_
            refine Till.tail _ rfl rfl (by kernel_rfl) (by kernel_rfl) ?_
            have hbxC := (HSCC.out.block b hbbC HNBC.out).trans HRw8E.out.box
            have hcbC : w8C.cell? ⟨b, 0, none⟩ = some (vo) := by simp [World.cell?, hbxC]
            have hfbC : w8C.frozen? ⟨b, 0, none⟩ = false := by simp [World.frozen?, hbxC]
            have HBXC := Lib.hid hbxC
            clear hbxC
            go_wp2
            refine NoPanic.normal ?_
            clear hcbC hfbC
            obtain ⟨wC, hwC⟩ : ∃ w9, w9 = w8C.setCell ⟨b, 0, none⟩ (Value.slice pC (O.length + 1) cC) := ⟨_, rfl⟩
            rw [← hwC]
            have hg9C : w8C.grownBy wC (some b) := by rw [hwC]; exact grownBy_set _ _ _ _
            have hb9C : wC.heap[b]? = some (.cells #[(Value.slice pC (O.length + 1) cC), vw, vn, vm] 37 (0, 0)) := by
              rw [hwC, setCell_eq_setRow w8C b 0 _ _ (0, 0) _ HBXC.out, setRow_heap w8C b _ _ _ (0, 0) HBXC.out]
              rfl
            have hz9C := hg9C.size
            have HKwC := Lib.hid (show Keeps (fun i => i = b ∨ (vo).ownBlock = some i) w8E wC from (HSCC.out.mono (fun i hi => .inr hi)).trans (Keeps.of_grown hg9C (S := fun i => i = b ∨ (vo).ownBlock = some i) (.inl rfl)))
            have ho9C := HOWC.out.keep (w' := wC) (fun g hg => hg9C.block g (HOWC.out.lt hg).2 (fun e => by
              have e' : b = g := (Option.some.inj e).symm
              rcases HATC.out g hg with h1 | h1
              · exact HNBC.out (e' ▸ h1)
              · omega))
            have hokAC : ∀ e ∈ O ++ [(⟨nm, o, p, c⟩ : E3)], e.Ok wC B := by
              have hSF : ∀ i, (i = b ∨ (vo).ownBlock = some i) → F i := fun i hi => hi.elim (fun e => e ▸ HRw8E.out.fb) (HRw8E.out.fo i)
              intro e he
              rcases List.mem_append.1 he with he | he
              · exact HRw8E.out.ok' HKwC.out hSF (fun e he => .inl he) e he
              · rw [List.mem_singleton.1 he]
                refine E3.Ok.ok' (B := B) (S := fun i => i = b ∨ (vo).ownBlock = some i) (⟨HD.out, HNM.out, HS.out.below HBw8.out (Nat.le_refl _), HP.out⟩ : E3.Ok w8E B (⟨nm, o, p, c⟩ : E3)) HKwC.out (fun i off e1 hne e2 => HRw8E.out.apart i (hSF i e2) ((⟨HD.out, HNM.out, HS.out.below HBw8.out (Nat.le_refl _), HP.out⟩ : E3.Ok w8E B (⟨nm, o, p, c⟩ : E3)).at_ i off e1 hne))
            have hoNC : Owns wC 0 46 38 (Value.slice pC (O.length + 1) cC) (O ++ [(⟨nm, o, p, c⟩ : E3)]).length (ocs (O ++ [(⟨nm, o, p, c⟩ : E3)])) := by
              rw [← (show O.length + 1 = (O ++ [(⟨nm, o, p, c⟩ : E3)]).length by simp), ← (show ocs O ++ o.cs p c = ocs (O ++ [(⟨nm, o, p, c⟩ : E3)]) by simp [ocs, E3.cs])]
              exact ho9C
            have HRwC := Lib.hid (HRw8E.out.set0 HKwC.out (fun i hi => hi) hb9C hoNC HATC.out hokAC)
            have hF0C : ¬ (withOwn F (Value.slice pC (O.length + 1) cC)) w.heap.size := fun hf => hf.elim hF0 (fun e => (HATC.out _ e).elim (fun e2 => hF0 (HRw8E.out.fo _ e2)) (fun e2 => by omega))
            have hF1C : ¬ (withOwn F (Value.slice pC (O.length + 1) cC)) k1 := fun hf => hf.elim hF1 (fun e => (HATC.out _ e).elim (fun e2 => hF1 (HRw8E.out.fo _ e2)) (fun e2 => by omega))
            clear hoNC
            clear hwC hg9C hb9C ho9C
            have HNCwC := Lib.hid (HNCw8.out.of_block (HKwC.out.block k1 (by omega) (fun e => e.elim (fun e => hF1 (e ▸ HRw8E.out.fb)) (fun e => hF1 (HRw8E.out.fo _ e)))))
            have hk1C : k1 < wC.heap.size := by omega
            go_upto_region 13 with fail
            refine wp_region_noPanic ?_
            refine wp_region_till 10 (fun w' => Keeps (fun i => (vn).ownBlock = some i) wC w') (by kernel_rfl) (by kernel_rfl) ?_
            obtain ⟨wAD, hwAD⟩ : ∃ wA, wA = wC.drew := ⟨_, rfl⟩
            have HBAD := Lib.hid (show Below wC.heap.size wC wAD by rw [hwAD]; exact (Below.refl _ wC).drew)
            have HSAD := Lib.hid (show Keeps (fun i => (vn).ownBlock = some i) wC wAD from Keeps.of_below HBAD.out)
            rw [← hwAD]
            have hzAD : wC.heap.size ≤ wAD.heap.size := HBAD.out.size
            clear hwAD
            have hblD : k1 < wC.heap.size := by omega
            have hbbD : b < wC.heap.size := HRwC.out.lt
            have HNBD := Lib.hid (show (vn).ownBlock ≠ some b from HRwC.out.ne2)
            have HNKD := Lib.hid (show (vn).ownBlock ≠ some (k1) from fun e => hF1C (HRwC.out.fn _ e))
            go_simp
            refine Till.pure 0 rfl rfl (by kernel_rfl) (NoPanic.noFrame _) HSAD.out ?_
            go_big_quiet_step (fail)
            refine wpQuiet_nil ?_
            refine Till.pure 1 rfl rfl (by kernel_rfl) (NoPanic.noFrame _) HSAD.out ?_
            go_big_quiet_step (fail)
            refine wpQuiet_nil ?_
            refine Till.pure 2 rfl rfl (by kernel_rfl) (NoPanic.noFrame _) HSAD.out ?_
            go_big_quiet_step (fail)
            refine wpQuiet_nil ?_
            refine Till.pure 3 rfl rfl (by kernel_rfl) (NoPanic.noFrame _) HSAD.out ?_
            go_big_quiet_step (fail)
            refine wpQuiet_nil ?_
            refine Till.load 4 28 _ ⟨b, 2, none⟩ (vn) rfl rfl rfl rfl (by kernel_rfl) (NoPanic.noFrame _) HSAD.out (fun w' hw' => run_loadVar_one Tryz.underlying28 rfl ((cell_eq (hw'.block b hbbD HNBD.out) 2).trans HRwC.out.c2)) ?_
            go_simp
            refine Till.load 5 31 _ ⟨k1, 0, none⟩ (.agg (bcs nm).toArray) rfl rfl rfl rfl (by kernel_rfl) (NoPanic.noFrame _) HSAD.out (fun w' hw' => run_loadAgg Tryz.underlying31 rfl (by rw [HI.out, bcs_length, HNM.out]) (HNCwC.out.of_block (hw'.block _ hblD HNKD.out))) ?_
            go_simp
            refine Till.act 6 rfl rfl (by kernel_rfl) rfl ?_
            intro K hK
            refine wp_buildOne 28 _ rfl 31 32 _ Tryz.underlying28 HI.out (by omega) (by omega) HZ.out (bcs nm).toArray (by rfl) (by rw [List.size_toArray, bcs_length, HNM.out]) ?_
            have hSBD : Keeps (fun i => (vn).ownBlock = some i) wC (wAD.alloc (.cells (bcs nm).toArray 31)) := HSAD.out.trans (Keeps.of_below ((Below.refl _ wAD).alloc (Nat.le_refl _) _))
            refine hK _ _ hSBD ?_
            clear hK K
            refine Till.act 7 rfl rfl (by kernel_rfl) rfl ?_
            intro K hK
            have hoBD : Owns (wAD.alloc (.cells (bcs nm).toArray 31)) 0 31 32 (vn) (O.length) (pcs (O.map (·.n))) := by simpa using (HRwC.out.names.under HBAD.out).alloc (.cells (bcs nm).toArray 31)
            refine wp_append_G _ _ 28 rfl 0 31 i0 _ 32 32 Tryz.underlying28 hi hz0 hz1 hz2 (by rfl) (by omega) (vn) (O.length) (pcs (O.map (·.n))) (by rfl) hoBD (some ⟨wAD.heap.size, 0, none⟩) 1 1 (bcs nm) (by rfl) (by rw [bcs_length, HNM.out]) (src_new wAD (bcs nm) 31) (fun a e => by cases e; rfl) (bcs_one nm) (by unfold maxLen; omega) (by omega) (Nat.zero_le _) ?_
            intro vD w8D hownD hgD hatD
            obtain ⟨pD, cD, rfl⟩ := hownD.form
            have hz8D := hgD.size
            rw [World.size_alloc] at hz8D hatD
            have hSCD : Keeps (fun i => (vn).ownBlock = some i) wC w8D := hSBD.trans ⟨hgD.os, hgD.tape, hgD.output, hgD.size, fun i hi hs => hgD.block i hi (fun e => hs e.symm)⟩
            refine hK _ _ hSCD ?_
            clear hK K
            have HSCD := Lib.hid hSCD
            have HOWD := Lib.hid hownD
            have HATD := Lib.hid (show ∀ g, (Value.slice pD (O.length + 1) cD).ownBlock = some g → (vn).ownBlock = some g ∨ wC.heap.size ≤ g from fun g hg => by
              rcases hatD with h | h
              · exact .inl (h ▸ hg)
              · rw [h] at hg
                have := Option.some.inj hg
                exact .inr (by omega))
            clear hSBD hoBD hownD hgD hatD hSCD
            go_simp
            refine Till.pure 8 rfl rfl (by kernel_rfl) (NoPanic.noFrame _) HSCD.out ?_
            go_big_quiet_step (fail)
            refine wpQuiet_nil ?_
            refine Till.pure 9 rfl rfl (by kernel_rfl) (NoPanic.noFrame _) HSCD.out ?_
            go_big_quiet_step (fail)
            refine wpQuiet_nil ?_
            refine Till.tail _ rfl rfl (by kernel_rfl) (by kernel_rfl) ?_
            have hbxD := (HSCD.out.block b hbbD HNBD.out).trans HRwC.out.box
            have hcbD : w8D.cell? ⟨b, 2, none⟩ = some (vn) := by simp [World.cell?, hbxD]
            have hfbD : w8D.frozen? ⟨b, 2, none⟩ = false := by simp [World.frozen?, hbxD]
            have HBXD := Lib.hid hbxD
            clear hbxD
            go_wp2
            refine NoPanic.normal ?_
            clear hcbD hfbD
            obtain ⟨wD, hwD⟩ : ∃ w9, w9 = w8D.setCell ⟨b, 2, none⟩ (Value.slice pD (O.length + 1) cD) := ⟨_, rfl⟩
            rw [← hwD]
            have hg9D : w8D.grownBy wD (some b) := by rw [hwD]; exact grownBy_set _ _ _ _
            have hb9D : wD.heap[b]? = some (.cells #[(Value.slice pC (O.length + 1) cC), vw, (Value.slice pD (O.length + 1) cD), vm] 37 (0, 0)) := by
              rw [hwD, setCell_eq_setRow w8D b 2 _ _ (0, 0) _ HBXD.out, setRow_heap w8D b _ _ _ (0, 0) HBXD.out]
              rfl
            have hz9D := hg9D.size
            have HKwD := Lib.hid (show Keeps (fun i => i = b ∨ (vn).ownBlock = some i) wC wD from (HSCD.out.mono (fun i hi => .inr hi)).trans (Keeps.of_grown hg9D (S := fun i => i = b ∨ (vn).ownBlock = some i) (.inl rfl)))
            have ho9D := HOWD.out.keep (w' := wD) (fun g hg => hg9D.block g (HOWD.out.lt hg).2 (fun e => by
              have e' : b = g := (Option.some.inj e).symm
              rcases HATD.out g hg with h1 | h1
              · exact HNBD.out (e' ▸ h1)
              · omega))
            have h32D : ∀ x ∈ O.map (·.n) ++ [nm], x.length = 32 := fun x hx => by
              rcases List.mem_append.1 hx with hx | hx
              · exact HRwC.out.n32 x hx
              · rw [List.mem_singleton.1 hx]; exact HNM.out
            have hoND : Owns wD 0 31 32 (Value.slice pD (O.length + 1) cD) (O.map (·.n) ++ [nm]).length (pcs (O.map (·.n) ++ [nm])) := by
              rw [← (show O.length + 1 = (O.map (·.n) ++ [nm]).length by simp), ← (show pcs (O.map (·.n)) ++ bcs nm = pcs (O.map (·.n) ++ [nm]) by simp [pcs])]
              exact ho9D
            have HRwD := Lib.hid (HRwC.out.set2 HKwD.out (fun i hi => hi) hb9D hoND HATD.out h32D)
            have hF0D : ¬ (withOwn (withOwn F (Value.slice pC (O.length + 1) cC)) (Value.slice pD (O.length + 1) cD)) w.heap.size := fun hf => hf.elim hF0C (fun e => (HATD.out _ e).elim (fun e2 => hF0C (HRwC.out.fn _ e2)) (fun e2 => by omega))
            have hF1D : ¬ (withOwn (withOwn F (Value.slice pC (O.length + 1) cC)) (Value.slice pD (O.length + 1) cD)) k1 := fun hf => hf.elim hF1C (fun e => (HATD.out _ e).elim (fun e2 => hF1C (HRwC.out.fn _ e2)) (fun e2 => by omega))
            clear hoND
            clear hwD hg9D hb9D ho9D
            have HNCwD := Lib.hid (HNCwC.out.of_block (HKwD.out.block k1 (by omega) (fun e => e.elim (fun e => hF1C (e ▸ HRwC.out.fb)) (fun e => hF1C (HRwC.out.fn _ e)))))
            have hk1D : k1 < wD.heap.size := by omega
            obtain ⟨O1, hO1⟩ : ∃ O1, O1 = O ++ [(⟨nm, o, p, c⟩ : E3)] := ⟨_, rfl⟩
            have HSETD := Lib.hid (show RefSet wD b (Value.slice pC (O.length + 1) cC) vw (Value.slice pD (O.length + 1) cD) vm (withOwn (withOwn F (Value.slice pC (O.length + 1) cC)) (Value.slice pD (O.length + 1) cD)) B O1 W from RefRaw.set (by rw [hO1]; simpa using HRwD.out))
            have hO1e : O1.map E3.ent = O.map E3.ent ++ [(nm, o)] := by rw [hO1]; simp [E3.ent]
            have hO1l : O1.length = O.length + 1 := by rw [hO1]; simp
            have HTK := Lib.hid (show takeD ⟨O.map E3.ent, W.map E3.ent⟩ o = ((drain W.length ⟨O1.map E3.ent, W.map E3.ent⟩ [nm]).1, (drain W.length ⟨O1.map E3.ent, W.map E3.ent⟩ [nm]).2, 0) by
              unfold takeD
              rw [if_pos hg, ← HNMX.out]
              simp only
              rw [HNO.out, ← HBWX.out, ← HWHX.out, if_neg (by simp), if_neg (by simp), if_pos (by rw [HDEP.out, HDDE.out]), hO1e, List.length_map])
            have HIN1 := Lib.hid (show DInv ⟨O1.map E3.ent, W.map E3.ent⟩ by
              rw [hO1e]
              exact HIN.out.push (e := (nm, o)) HNMX.out (hasN_false.1 HNO.out) (hasN_false.1 HBWX.out.symm) HWHX.out.symm (by rw [HDEP.out, HDDE.out]))
            have HKF := Lib.hid (show Keeps F w wD from (Keeps.of_below HBw8.out).trans ((HKwC.out.mono (T := F) (fun i hi => hi.elim (fun e => e ▸ HRw8E.out.fb) (HRw8E.out.fo i))).trans (HKwD.out.mono (T := F) (fun i hi => hi.elim (fun e => e ▸ HRw8E.out.fb) (HRw8E.out.fn i)))))
            have HFN := Lib.hid (show ∀ i, (withOwn (withOwn F (Value.slice pC (O.length + 1) cC)) (Value.slice pD (O.length + 1) cD)) i → F i ∨ w.heap.size ≤ i from fun i hi => by
              rcases hi with (hi | hi) | hi
              · exact .inl hi
              · rcases HATC.out i hi with h | h
                · exact .inl (HRw8E.out.fo i h)
                · exact .inr (by omega)
              · rcases HATD.out i hi with h | h
                · exact .inl (HRw8E.out.fn i h)
                · exact .inr (by omega))
            clear hO1 hO1e
            go_upto_region 15 with (first
              | (refine wpList_loadAgg _ rfl 31 _ rfl _ Tryz.underlying31 rfl k1 0 (by rfl) (bcs nm) (by rw [HI.out, bcs_length, HNM.out]) HNCwD.out ?_)
              | (refine wpList_buildOne _ rfl 28 _ rfl 31 32 _ Tryz.underlying28 HI.out (by omega) (by omega) HZ.out (bcs nm).toArray (by rfl) (by rw [List.size_toArray, bcs_length, HNM.out]) ?_))
            obtain ⟨wE, hwE⟩ : ∃ wE, wE = wD.alloc (.cells (bcs nm).toArray 31) := ⟨_, rfl⟩
            rw [← hwE]
            have hbE : Below wD.heap.size wD wE := by rw [hwE]; exact (Below.refl _ wD).alloc (Nat.le_refl _) _
            have HOE := Lib.hid (show Owns wE w.heap.size 31 32 (.slice (some ⟨wD.heap.size, 0, none⟩) 1 1) 1 (pcs [nm]) by
              rw [hwE]
              refine ⟨by rw [pcs_length (by simpa using HNM.out)]; rfl, .inr ⟨wD.heap.size, 1, (bcs nm).toArray, (0, 0), rfl, by omega, (MapKept.heap_alloc _ _).1, ⟨.inl (Nat.zero_le _), fun _ => rfl⟩, Nat.le_refl _, by unfold maxLen; omega, by rw [List.size_toArray, bcs_length, HNM.out], ?_⟩⟩
              have : (bcs nm).length = 32 := by rw [bcs_length, HNM.out]
              simp [pcs, List.take_of_length_le, this])
            have HSETE := Lib.hid (HSETD.out.under hbE)
            have HKE := Lib.hid (HKF.out.trans (Keeps.of_below hbE))
            have HOUT0 := Lib.hid (show ∀ g, (Value.slice (some ⟨wD.heap.size, 0, none⟩) 1 1).ownBlock = some g → ¬ (withOwn (withOwn F (Value.slice pC (O.length + 1) cC)) (Value.slice pD (O.length + 1) cD)) g from fun g hg hf => by
              have h1 := HSETD.out.flt g hf
              have h2 : wD.heap.size = g := by simpa [Value.ownBlock] using hg
              omega)
            clear hwE hbE
            go_loopw [7] (fun v wr => ∃ (vo2 vw2 vn2 vm2 : Value) (F2 : Nat → Prop) (O2 W2 : List E3) (out : List Nm), Hid (RefSet wr b vo2 vw2 vn2 vm2 F2 B O2 W2) ∧ Hid (DInv ⟨O2.map E3.ent, W2.map E3.ent⟩) ∧ Hid (Owns wr w.heap.size 31 32 v out.length (pcs out)) ∧ Hid (∀ g, v.ownBlock = some g → ¬ F2 g) ∧
                Hid (drain W.length ⟨O1.map E3.ent, W.map E3.ent⟩ [nm] = drain W2.length ⟨O2.map E3.ent, W2.map E3.ent⟩ out) ∧ Hid (Keeps F w wr) ∧ Hid (∀ i, F2 i → F i ∨ w.heap.size ≤ i) ∧ O2.length + W2.length ≤ 901 ∧ out.length + W2.length ≤ 901) (fun _ wr => waitLen wr b)
            case atStart => exact ⟨_, _, _, _, _, O1, W, [nm], HSETE, HIN1, HOE, HOUT0, Lib.hid rfl, HKE, HFN, by omega, by simp; omega⟩
            case round =>
              obtain ⟨vo2, vw2, vn2, vm2, F2, O2, W2, out, HRS, HINV, HOW, HOUT, HDR, HKP, HF2, hsum, hol⟩ := hrel
              have hblr := HRS.out.lt
              obtain ⟨pw, cw, rfl⟩ := HRS.out.wait.form
              obtain ⟨pm, cm, rfl⟩ := HRS.out.waits.form
              have hzr := HKP.out.size
              have HWL := Lib.hid (show waitLen wr b = W2.length from waitLen_eq HRS.out.c1)
              have H38 := Lib.hid (show ∀ e ∈ W2, e.cs.length = 38 from fun e he => OpV.cs_length (HRS.out.okW e he).ok _ _)
              have HSW := Lib.hid HRS.out.wait.srcOf
              have HSM := Lib.hid (show Src wr pm (pcs (W2.map (·.n))) from HRS.out.waits.srcOf)
              have hc1 := HRS.out.c1
              go_upto_region 17 with fail
              clear hc1
              obtain ⟨wO, hwO⟩ : ∃ wO : World, wO = wr := ⟨wr, rfl⟩
              subst hwO
              go_loopw [8, 84] (fun bv x wz => ∃ m : Nat, m ≤ W2.length ∧ x = .int .i64 m ∧ bv = .int .i64 (bestZ (O2.map E3.ent) (W2.map E3.ent) m) ∧ Hid (Below wO.heap.size wO wz)) (fun _ x _ => W2.length - (intOf x).toNat)
              case atStart => exact ⟨0, by omega, rfl, rfl, Lib.hid (Below.refl _ _)⟩
              case round =>
                obtain ⟨m, hm, rfl, rfl, HBZ⟩ := hrel
                have hszz := HBZ.out.size
                by_cases hlm : m < W2.length
                · skip
                  obtain ⟨e, gW, oW, he1, he2, he3, hpe, he4⟩ := op_at HSW.out.at_ H38.out hlm
                  subst hpe
                  have hgW := cellsAt_lt he4 (by rw [H38.out e he3]; omega)
                  obtain ⟨eo, heo⟩ : ∃ x, x = e.o := ⟨_, rfl⟩
                  obtain ⟨ep, hep⟩ : ∃ x, x = e.p := ⟨_, rfl⟩
                  obtain ⟨ec, hec⟩ : ∃ x, x = e.c := ⟨_, rfl⟩
                  obtain ⟨cs, hcs⟩ : ∃ x, x = eo.cs ep ec := ⟨_, rfl⟩
                  have hcs2 : cs = e.cs := by rw [hcs, heo, hep, hec]; rfl
                  have HEC := Lib.hid (show cellsAt wr gW (oW + m * 38) cs by rw [hcs2]; exact he4.of_block (HBZ.out.block _ hgW))
                  have HEOK := Lib.hid (show eo.Ok by rw [heo]; exact (HRS.out.okW e he3).ok)
                  have HESR := Lib.hid (show Src wO ep (pcs eo.preds) by rw [heo, hep]; exact (HRS.out.okW e he3).src)
                  have HE38 := Lib.hid (show cs.length = 38 by rw [hcs2]; exact H38.out e he3)
                  have HE1 := Lib.hid (show ∀ u ∈ cs, u.oneCell' = true by rw [hcs]; exact OpV.cs_one eo ep ec)
                  have HCSX := Lib.hid hcs
                  have HENT := Lib.hid (show (W2.map E3.ent)[m]? = some (e.n, eo) by rw [List.getElem?_map, he1, heo]; rfl)
                  have HNMM := Lib.hid (show (W2.map (·.n))[m]? = some e.n by rw [List.getElem?_map, he1]; rfl)
                  have hSU := bestZ_succ (l := O2.map E3.ent) HENT.out
                  obtain ⟨BZ, hBZ⟩ : ∃ BZ, BZ = bestZ (O2.map E3.ent) (W2.map E3.ent) m := ⟨_, rfl⟩
                  obtain ⟨wh2, hwh2⟩ : ∃ x, x = wholeB (O2.map E3.ent) eo := ⟨_, rfl⟩
                  rw [← hBZ] at hSU ⊢
                  rw [show wholeB (O2.map E3.ent) ((e.n, eo) : NOp).2 = wh2 from hwh2.symm] at hSU
                  have HSU := Lib.hid hSU
                  have HBZX := Lib.hid hBZ
                  have HWH2 := Lib.hid hwh2
                  clear he1 he2 he3 he4 heo hep hec hcs2 hcs hSU hBZ hwh2
                  go_upto_region 19 with (first
                    | (refine wpList_loadAgg _ rfl 46 _ rfl _ Tryz.underlying46 rfl gW (oW + m * 38) (by rfl) cs (by rw [opInfo, HE38.out]) HEC.out ?_)
                    | (refine wpList_allocZ _ rfl 46 rfl _ HZO.out ?_)
                    | (refine wpList_storeNew _ wr rfl 46 _ _ rfl _ rfl (by rfl) cs.toArray (by rfl) (by rw [opInfo, List.size_toArray, HE38.out]) (show 38 = cs.toArray.size by rw [List.size_toArray, HE38.out]) (by simpa using HE1.out) ?_))
                  obtain ⟨ke, hke⟩ : ∃ ke, ke = wr.heap.size := ⟨_, rfl⟩
                  obtain ⟨w3, hw3⟩ : ∃ w3, w3 = wr.alloc (.cells cs.toArray 46) := ⟨_, rfl⟩
                  rw [← hw3, ← hke]
                  have hb3 : Below wr.heap.size wr w3 := by rw [hw3]; exact (Below.refl _ wr).alloc (Nat.le_refl _) _
                  have HKX := Lib.hid (show cellsAt w3 ke 0 (eo.cs ep ec) by rw [← HCSX.out, hw3, hke]; simpa using cellsAt_new wr cs.toArray 46)
                  have hke2 : ke < w3.heap.size := by rw [hw3, hke]; simp
                  have HB3 := Lib.hid (HBZ.out.trans (hb3.mono (by omega)))
                  have hz3x := HB3.out.size
                  have HRS3 := Lib.hid (HRS.out.under HB3.out)
                  have HEX := Lib.hid (OpV.cs_length HEOK.out ep ec)
                  have HES3 := Lib.hid (HESR.out.below HB3.out (Nat.le_refl _))
                  clear hw3 hb3 hke
                  obtain ⟨N3, hN3a, hN3b⟩ : ∃ n, w3.heap.size ≤ n ∧ n ≤ w3.heap.size := ⟨_, Nat.le_refl _, Nat.le_refl _⟩
                  refine wp_region_noPanic ?_
                  refine wp_region_till 22 (fun w' => Below N3 w3 w') (by kernel_rfl) (by kernel_rfl) ?_
                  obtain ⟨wI, hwI⟩ : ∃ wI, wI = w3.drew := ⟨_, rfl⟩
                  have hSwI : Below N3 w3 wI := by rw [hwI]; exact (Below.refl N3 w3).drew
                  rw [← hwI]
                  have HSI := Lib.hid hSwI
                  have hzwI : w3.heap.size ≤ wI.heap.size := by rw [hwI]; exact Nat.le_refl _
                  clear hwI hSwI
                  go_simp
                  refine Till.pure 0 rfl rfl (by kernel_rfl) (NoPanic.noFrame _) HSI.out ?_
                  go_big_quiet_step (fail)
                  refine wpQuiet_nil ?_
                  refine Till.load 1 46 _ ⟨ke, 0, none⟩ (.agg (eo.cs ep ec).toArray) rfl rfl rfl rfl (by kernel_rfl) (NoPanic.noFrame _) HSI.out (fun w' hw' => run_loadAgg Tryz.underlying46 rfl (by rw [opInfo, HEX.out]) (HKX.out.of_block (hw'.block _ (by omega)))) ?_
                  go_simp
                  refine Till.act 2 rfl rfl (by kernel_rfl) rfl ?_
                  intro K hK
                  have hcw2 := whole_any b vo2 _ vn2 _ F2 B O2 W2 eo HEOK.out ep ec wI (HRS3.out.below HSI.out hN3a) (by omega) (HES3.out.below (HSI.out.mono hN3a) (Nat.le_refl _))
                  rw [← HWH2.out] at hcw2
                  go_wp2_with (first | (go_at_call 67; refine hcw2.mono ?_; rintro e9 wJ ⟨rfl, hbJ⟩))
                  have hzJ := hbJ.size
                  refine hK _ _ (HSI.out.trans (hbJ.mono (by omega))) ?_
                  clear hK K hcw2
                  have HSJ := Lib.hid (HSI.out.trans (hbJ.mono (by omega)))
                  have HBJ := Lib.hid (HB3.out.trans (HSJ.out.mono (by omega)))
                  clear hbJ
                  cases wh2 with
                  | false =>
                    have HNEW := Lib.hid (show bestZ (O2.map E3.ent) (W2.map E3.ent) (m + 1) = BZ by rw [HSU.out, Bool.false_and, if_neg (by simp)])
                    go_simp
                    refine Till.pure 3 rfl rfl (by kernel_rfl) (NoPanic.noFrame _) HSJ.out ?_
                    go_big_quiet_step (fail)
                    refine wpQuiet_nil ?_
                    refine Till.pass 4 rfl (by rfl) (by kernel_rfl) (NoPanic.noFrame _) HSJ.out ?_
                    go_simp
                    refine Till.pass 5 rfl (by rfl) (by kernel_rfl) (NoPanic.noFrame _) HSJ.out ?_
                    go_simp
                    refine Till.pass 6 rfl (by rfl) (by kernel_rfl) (NoPanic.noFrame _) HSJ.out ?_
                    go_simp
                    refine Till.pass 7 rfl (by rfl) (by kernel_rfl) (NoPanic.noFrame _) HSJ.out ?_
                    go_simp
                    refine Till.pass 8 rfl (by rfl) (by kernel_rfl) (NoPanic.noFrame _) HSJ.out ?_
                    go_simp
                    refine Till.pass 9 rfl (by rfl) (by kernel_rfl) (NoPanic.noFrame _) HSJ.out ?_
                    go_simp
                    refine Till.pass 10 rfl (by rfl) (by kernel_rfl) (NoPanic.noFrame _) HSJ.out ?_
                    go_simp
                    refine Till.pass 11 rfl (by rfl) (by kernel_rfl) (NoPanic.noFrame _) HSJ.out ?_
                    go_simp
                    refine Till.pass 12 rfl (by rfl) (by kernel_rfl) (NoPanic.noFrame _) HSJ.out ?_
                    go_simp
                    refine Till.pass 13 rfl (by rfl) (by kernel_rfl) (NoPanic.noFrame _) HSJ.out ?_
                    go_simp
                    refine Till.pass 14 rfl (by rfl) (by kernel_rfl) (NoPanic.noFrame _) HSJ.out ?_
                    go_simp
                    refine Till.pass 15 rfl (by rfl) (by kernel_rfl) (NoPanic.noFrame _) HSJ.out ?_
                    go_simp
                    refine Till.pass 16 rfl (by rfl) (by kernel_rfl) (NoPanic.noFrame _) HSJ.out ?_
                    go_simp
                    refine Till.pass 17 rfl (by rfl) (by kernel_rfl) (NoPanic.noFrame _) HSJ.out ?_
                    go_simp
                    refine Till.pass 18 rfl (by rfl) (by kernel_rfl) (NoPanic.noFrame _) HSJ.out ?_
                    go_simp
                    refine Till.pass 19 rfl (by rfl) (by kernel_rfl) (NoPanic.noFrame _) HSJ.out ?_
                    go_simp
                    refine Till.pass 20 rfl (by rfl) (by kernel_rfl) (NoPanic.noFrame _) HSJ.out ?_
                    go_simp
                    refine Till.pass 21 rfl (by rfl) (by kernel_rfl) (NoPanic.noFrame _) HSJ.out ?_
                    go_simp
                    refine Till.tail _ rfl rfl (by kernel_rfl) (by kernel_rfl) ?_
                    refine wpList_passed (by rfl) ?_
                    go_simp
                    go_wp2
                    refine NoPanic.normal ?_
                    go_wp2
                    go_roundw
                    case rel => first | exact ⟨m + 1, by omega, by go_num, by rw [HNEW.out], HBJ⟩ | ((repeat apply Exists.intro); exact ⟨⟨m + 1, by omega, by go_num, by rw [HNEW.out], HBJ⟩, rfl⟩)
                    case measure => simp [intOf] <;> omega
                  | true =>
                    by_cases hbz : BZ < 0
                    · have hd1 : decide (BZ < 0) = true := by simpa using hbz
                      have HNEW := Lib.hid (show bestZ (O2.map E3.ent) (W2.map E3.ent) (m + 1) = m by
                        have h1 := bestZ_neg (by rw [← HBZX.out]; exact hbz : bestZ (O2.map E3.ent) (W2.map E3.ent) m < 0)
                        rw [HSU.out, h1]
                        simp [lessI])
                      go_simp
                      refine Till.pure 3 rfl rfl (by kernel_rfl) (NoPanic.noFrame _) HSJ.out ?_
                      go_big_quiet_step (fail)
                      refine wpQuiet_nil ?_
                      refine Till.pure 4 rfl rfl (by kernel_rfl) (NoPanic.noFrame _) HSJ.out ?_
                      go_big_quiet_step (fail)
                      refine wpQuiet_nil ?_
                      refine Till.pure 5 rfl rfl (by kernel_rfl) (NoPanic.noFrame _) HSJ.out ?_
                      go_big_quiet_step (fail)
                      refine wpQuiet_nil ?_
                      refine Till.pure 6 rfl rfl (by kernel_rfl) (NoPanic.noFrame _) HSJ.out ?_
                      go_big_quiet_step (fail)
                      refine wpQuiet_nil ?_
                      refine Till.pass 7 rfl (by rfl) (by kernel_rfl) (NoPanic.noFrame _) HSJ.out ?_
                      go_simp
                      refine Till.pass 8 rfl (by rfl) (by kernel_rfl) (NoPanic.noFrame _) HSJ.out ?_
                      go_simp
                      refine Till.pass 9 rfl (by rfl) (by kernel_rfl) (NoPanic.noFrame _) HSJ.out ?_
                      go_simp
                      refine Till.pass 10 rfl (by rfl) (by kernel_rfl) (NoPanic.noFrame _) HSJ.out ?_
                      go_simp
                      refine Till.pass 11 rfl (by rfl) (by kernel_rfl) (NoPanic.noFrame _) HSJ.out ?_
                      go_simp
                      refine Till.pass 12 rfl (by rfl) (by kernel_rfl) (NoPanic.noFrame _) HSJ.out ?_
                      go_simp
                      refine Till.pass 13 rfl (by rfl) (by kernel_rfl) (NoPanic.noFrame _) HSJ.out ?_
                      go_simp
                      refine Till.pass 14 rfl (by rfl) (by kernel_rfl) (NoPanic.noFrame _) HSJ.out ?_
                      go_simp
                      refine Till.pass 15 rfl (by rfl) (by kernel_rfl) (NoPanic.noFrame _) HSJ.out ?_
                      go_simp
                      refine Till.pass 16 rfl (by rfl) (by kernel_rfl) (NoPanic.noFrame _) HSJ.out ?_
                      go_simp
                      refine Till.pass 17 rfl (by rfl) (by kernel_rfl) (NoPanic.noFrame _) HSJ.out ?_
                      go_simp
                      refine Till.pass 18 rfl (by rfl) (by kernel_rfl) (NoPanic.noFrame _) HSJ.out ?_
                      go_simp
                      refine Till.pass 19 rfl (by rfl) (by kernel_rfl) (NoPanic.noFrame _) HSJ.out ?_
                      go_simp
                      refine Till.pass 20 rfl (by rfl) (by kernel_rfl) (NoPanic.noFrame _) HSJ.out ?_
                      go_simp
                      refine Till.pass 21 rfl (by rfl) (by kernel_rfl) (NoPanic.noFrame _) HSJ.out ?_
                      go_simp
                      refine Till.tail _ rfl rfl (by kernel_rfl) (by kernel_rfl) ?_
                      go_wp2
                      refine NoPanic.normal ?_
                      go_wp2
                      go_roundw
                      case rel => first | exact ⟨m + 1, by omega, by go_num, by rw [HNEW.out], HBJ⟩ | ((repeat apply Exists.intro); exact ⟨⟨m + 1, by omega, by go_num, by rw [HNEW.out], HBJ⟩, rfl⟩)
                      case measure => simp [intOf] <;> omega
                    · have hd1 : decide (BZ < 0) = false := by simpa using hbz
                      obtain ⟨i, hi1, hi2⟩ := bestZ_some (by rw [← HBZX.out]; exact hbz : ¬ bestZ (O2.map E3.ent) (W2.map E3.ent) m < 0)
                      obtain ⟨hilt, ei, hei, _⟩ := bestI_some hi1
                      have hiW : i < W2.length := by omega
                      obtain ⟨xm, gm, om, hm1, _, hm3, hpm, hm4⟩ := pred_at HSM.out.at_ HRS.out.m32 (n := m) (by simpa using hlm)
                      subst hpm
                      obtain ⟨xi, gm2, om2, hi3, _, hi5, hpm2, hi6⟩ := pred_at HSM.out.at_ HRS.out.m32 (n := i) (by simpa using hiW)
                      have hpm3 := Option.some.inj hpm2
                      simp only [Addr.mk.injEq] at hpm3
                      obtain ⟨rfl, rfl, _⟩ := hpm3
                      have hgm := bcs_at_lt hm4 hm3
                      have hxm : xm = e.n := by have := HNMM.out; rw [hm1] at this; exact Option.some.inj this
                      have HLESS := Lib.hid (show lessI (W2.map E3.ent) (bestI (O2.map E3.ent) (W2.map E3.ent) m) (e.n, eo) = decide (cmpB xm xi < 0) by
                        rw [hi1, hxm]
                        have h9 : (W2.map E3.ent).getD i (e.n, eo) = ei := by rw [List.getD_eq_getElem?_getD, hei]; rfl
                        have h8 : ei.1 = xi := by
                          rw [List.getElem?_map] at hei hi3
                          cases hW : W2[i]? with
                          | none => rw [hW] at hei; cases hei
                          | some q =>
                            rw [hW] at hei hi3
                            rw [← Option.some.inj hei, ← Option.some.inj hi3]
                            rfl
                        simp only [lessI, h9, h8])
                      have HBI := Lib.hid (show BZ = (i : Int) by rw [HBZX.out]; exact hi2)
                      have HXM0 := Lib.hid (show cellsAt w3 gm (om + m * 32) (bcs xm) from hm4.of_block (HB3.out.block _ hgm))
                      have HXI0 := Lib.hid (show cellsAt w3 gm (om + i * 32) (bcs xi) from hi6.of_block (HB3.out.block _ hgm))
                      have HXM3 := Lib.hid hm3
                      have HXI3 := Lib.hid hi5
                      have hzJx := HBJ.out.size
                      have hbi : BZ = (i : Int) := HBI.out
                      clear hi1 hi2 hei hm1 hm3 hpm2 hi3 hi5 hm4 hi6 hxm hbz
                      subst hbi
                      have hdi : decide ((i : Int) < 0) = false := by simp
                      have hdl : (i : Int) < (W2.length : Int) := by omega
                      have hdm : (m : Int) < (W2.length : Int) := by omega
                      go_simp
                      refine Till.pure 3 rfl rfl (by kernel_rfl) (NoPanic.noFrame _) HSJ.out ?_
                      go_big_quiet_step (fail)
                      refine wpQuiet_nil ?_
                      refine Till.pure 4 rfl rfl (by kernel_rfl) (NoPanic.noFrame _) HSJ.out ?_
                      go_big_quiet_step (fail)
                      refine wpQuiet_nil ?_
                      refine Till.pure 5 rfl rfl (by kernel_rfl) (NoPanic.noFrame _) HSJ.out ?_
                      go_big_quiet_step (fail)
                      refine wpQuiet_nil ?_
                      refine Till.pure 6 rfl rfl (by kernel_rfl) (NoPanic.noFrame _) HSJ.out ?_
                      go_big_quiet_step (fail)
                      refine wpQuiet_nil ?_
                      refine Till.pure 7 rfl rfl (by kernel_rfl) (NoPanic.noFrame _) HSJ.out ?_
                      go_big_quiet_step (fail)
                      refine wpQuiet_nil ?_
                      refine Till.pure 8 rfl rfl (by kernel_rfl) (NoPanic.noFrame _) HSJ.out ?_
                      go_big_quiet_step (fail)
                      refine wpQuiet_nil ?_
                      refine Till.pure 9 rfl rfl (by kernel_rfl) (NoPanic.noFrame _) HSJ.out ?_
                      go_big_quiet_step (fail)
                      refine wpQuiet_nil ?_
                      refine Till.load 10 28 _ ⟨b, 3, none⟩ (.slice (some ⟨gm, om, none⟩) W2.length cm) rfl rfl rfl rfl (by kernel_rfl) (NoPanic.noFrame _) HSJ.out (fun w' hw' => run_loadVar_one Tryz.underlying28 rfl (HRS3.out.below hw' hN3a).c3) ?_
                      go_simp
                      refine Till.pure 11 rfl rfl (by kernel_rfl) (NoPanic.noFrame _) HSJ.out ?_
                      go_big_quiet_step (fail)
                      refine wpQuiet_nil ?_
                      refine Till.pure 12 rfl rfl (by kernel_rfl) (NoPanic.noFrame _) HSJ.out ?_
                      go_big_quiet_step (fail)
                      refine wpQuiet_nil ?_
                      refine Till.load 13 31 _ ⟨gm, om + m * 32, none⟩ (idv xm) rfl rfl rfl rfl (by kernel_rfl) (NoPanic.noFrame _) HSJ.out (fun w' hw' => run_loadAgg Tryz.underlying31 rfl (by rw [HI.out, bcs_length, HXM3.out]) (HXM0.out.of_block (hw'.block _ (by omega)))) ?_
                      go_simp
                      refine Till.pure 14 rfl rfl (by kernel_rfl) (NoPanic.noFrame _) HSJ.out ?_
                      go_big_quiet_step (fail)
                      refine wpQuiet_nil ?_
                      refine Till.pure 15 rfl rfl (by kernel_rfl) (NoPanic.noFrame _) HSJ.out ?_
                      go_big_quiet_step (fail)
                      refine wpQuiet_nil ?_
                      refine Till.pure 16 rfl rfl (by kernel_rfl) (NoPanic.noFrame _) HSJ.out ?_
                      go_big_quiet_step (fail)
                      refine wpQuiet_nil ?_
                      refine Till.load 17 28 _ ⟨b, 3, none⟩ (.slice (some ⟨gm, om, none⟩) W2.length cm) rfl rfl rfl rfl (by kernel_rfl) (NoPanic.noFrame _) HSJ.out (fun w' hw' => run_loadVar_one Tryz.underlying28 rfl (HRS3.out.below hw' hN3a).c3) ?_
                      go_simp
                      refine Till.pure 18 rfl rfl (by kernel_rfl) (NoPanic.noFrame _) HSJ.out ?_
                      go_big_quiet_step (fail)
                      refine wpQuiet_nil ?_
                      refine Till.pure 19 rfl rfl (by kernel_rfl) (NoPanic.noFrame _) HSJ.out ?_
                      go_big_quiet_step (fail)
                      refine wpQuiet_nil ?_
                      refine Till.load 20 31 _ ⟨gm, om + i * 32, none⟩ (idv xi) rfl rfl rfl rfl (by kernel_rfl) (NoPanic.noFrame _) HSJ.out (fun w' hw' => run_loadAgg Tryz.underlying31 rfl (by rw [HI.out, bcs_length, HXI3.out]) (HXI0.out.of_block (hw'.block _ (by omega)))) ?_
                      go_simp
                      refine Till.act 21 rfl rfl (by kernel_rfl) rfl ?_
                      intro K hK
                      go_wp2_with (first | (go_at_call 62; refine (refcmp_any xm xi HXM3.out HXI3.out wJ).mono ?_; rintro e5 wL ⟨rfl, hbL⟩))
                      have hSL := HSJ.out.trans (hbL.mono (by omega))
                      refine hK _ _ hSL ?_
                      clear hK K
                      have HBL2 := Lib.hid (HB3.out.trans (hSL.mono (by omega)))
                      clear hbL hSL
                      refine Till.tail _ rfl rfl (by kernel_rfl) (by kernel_rfl) ?_
                      by_cases hcx : cmpB xm xi < 0
                      · have hcd : decide (cmpB xm xi < 0) = true := by simpa using hcx
                        have HNEW := Lib.hid (show bestZ (O2.map E3.ent) (W2.map E3.ent) (m + 1) = m by rw [HSU.out, HLESS.out, hcd]; rfl)
                        go_wp2
                        refine NoPanic.normal ?_
                        go_wp2
                        go_roundw
                        case rel => first | exact ⟨m + 1, by omega, by go_num, by rw [HNEW.out], HBL2⟩ | ((repeat apply Exists.intro); exact ⟨⟨m + 1, by omega, by go_num, by rw [HNEW.out], HBL2⟩, rfl⟩)
                        case measure => simp [intOf] <;> omega
                      · have hcd : decide (cmpB xm xi < 0) = false := by simpa using hcx
                        have HNEW := Lib.hid (show bestZ (O2.map E3.ent) (W2.map E3.ent) (m + 1) = (i : Int) by rw [HSU.out, HLESS.out, hcd]; rfl)
                        go_wp2
                        refine NoPanic.normal ?_
                        go_wp2
                        go_roundw
                        case rel => first | exact ⟨m + 1, by omega, by go_num, by rw [HNEW.out], HBL2⟩ | ((repeat apply Exists.intro); exact ⟨⟨m + 1, by omega, by go_num, by rw [HNEW.out], HBL2⟩, rfl⟩)
                        case measure => simp [intOf] <;> omega
                · skip
                  obtain rfl : m = W2.length := by omega
                  obtain ⟨BZ, hBZ⟩ : ∃ BZ, BZ = bestZ (O2.map E3.ent) (W2.map E3.ent) W2.length := ⟨_, rfl⟩
                  rw [← hBZ]
                  have HBZX := Lib.hid hBZ
                  clear hBZ
                  by_cases hbz : BZ < 0
                  · have hd1 : decide (BZ < 0) = true := by simpa using hbz
                    have HNONE := Lib.hid (bestZ_neg (by rw [← HBZX.out]; exact hbz : bestZ (O2.map E3.ent) (W2.map E3.ent) W2.length < 0))
                    have hstop : drain W.length ⟨O1.map E3.ent, W.map E3.ent⟩ [nm] = (⟨O2.map E3.ent, W2.map E3.ent⟩, out) := by
                      rw [HDR.out]
                      exact drain_stop (by simpa using HNONE.out)
                    have hfin : ∃ v vo' vw' vn' vm' F' O' W', Ending.returned (.tuple #[u7, .int .i64 0]) = .returned (.tuple #[v, .int .i64 (takeD ⟨O.map E3.ent, W.map E3.ent⟩ o).2.2]) ∧
                        O'.map E3.ent = (takeD ⟨O.map E3.ent, W.map E3.ent⟩ o).1.ops ∧ W'.map E3.ent = (takeD ⟨O.map E3.ent, W.map E3.ent⟩ o).1.wait ∧
                        RefSet wr b vo' vw' vn' vm' F' B O' W' ∧ (∀ i, F' i → F i ∨ w.heap.size ≤ i) ∧ Owns wr w.heap.size 31 32 v (takeD ⟨O.map E3.ent, W.map E3.ent⟩ o).2.1.length (pcs (takeD ⟨O.map E3.ent, W.map E3.ent⟩ o).2.1) ∧ Keeps F w wr := by
                      rw [HTK.out, hstop]
                      exact ⟨_, _, _, _, _, F2, O2, W2, rfl, rfl, rfl, HRS.out.under HBZ.out, HF2.out, HOW.out.under HBZ.out, HKP.out.trans (Keeps.of_below HBZ.out)⟩
                    have HFIN := Lib.hid hfin
                    clear hfin hstop
                    go_wp2
                    refine bodyPost_ret (results_tmp2 rfl _ _ _) rfl ?_
                    obtain ⟨v, a1, a2, a3, a4, a5, a6, a7, h1, h2, h3, h4, h5, h6, h7⟩ := HFIN.out
                    first | exact HFIN.out | exact ⟨v, h1, a1, a2, a3, a4, a5, a6, h2, a7, h3, h4, h5, h6, h7⟩
                  · have hd1 : decide (BZ < 0) = false := by simpa using hbz
                    obtain ⟨i, hi1, hi2⟩ := bestZ_some (by rw [← HBZX.out]; exact hbz : ¬ bestZ (O2.map E3.ent) (W2.map E3.ent) W2.length < 0)
                    obtain ⟨hiW, ei, hei, hwei⟩ := bestI_some hi1
                    obtain ⟨x, gW, oW, hx1, _, hx3, hpe, hx4⟩ := op_at HSW.out.at_ H38.out hiW
                    subst hpe
                    obtain ⟨xn, gm, om, hn1, _, hn3, hpm, hn4⟩ := pred_at HSM.out.at_ HRS.out.m32 (n := i) (by simpa using hiW)
                    subst hpm
                    have hgW := cellsAt_lt hx4 (by rw [H38.out x hx3]; omega)
                    have hgm := bcs_at_lt hn4 hn3
                    have hxn : xn = x.n := by rw [List.getElem?_map, hx1] at hn1; exact (Option.some.inj hn1).symm
                    obtain ⟨xo, hxo⟩ : ∃ y, y = x.o := ⟨_, rfl⟩
                    obtain ⟨xp, hxp⟩ : ∃ y, y = x.p := ⟨_, rfl⟩
                    obtain ⟨xc, hxc⟩ : ∃ y, y = x.c := ⟨_, rfl⟩
                    have hxe : x = ⟨xn, xo, xp, xc⟩ := by rw [hxn, hxo, hxp, hxc]
                    have hcsx : x.cs = xo.cs xp xc := by rw [hxe]; rfl
                    have hei2 : ei = (xn, xo) := by rw [List.getElem?_map, hx1] at hei; rw [← Option.some.inj hei, hxe]; rfl
                    have HX1 := Lib.hid (show W2[i]? = some (⟨xn, xo, xp, xc⟩ : E3) by rw [hx1, hxe])
                    have HBI := Lib.hid hi1
                    have HWX := Lib.hid (show wholeB (O2.map E3.ent) xo = true by rw [hei2] at hwei; exact hwei)
                    have HXOK := Lib.hid (show (⟨xn, xo, xp, xc⟩ : E3).Ok wO B by rw [← hxe]; exact HRS.out.okW x hx3)
                    have HXC := Lib.hid (show cellsAt wr gW (oW + i * 38) (xo.cs xp xc) by rw [← hcsx]; exact hx4.of_block (HBZ.out.block _ hgW))
                    have HXN := Lib.hid (show cellsAt wr gm (om + i * 32) (bcs xn) from hn4.of_block (HBZ.out.block _ hgm))
                    have HN32 := Lib.hid hn3
                    have HC38 := Lib.hid (OpV.cs_length HXOK.out.ok xp xc)
                    have HONX := Lib.hid (OpV.cs_one xo xp xc)
                    have HZN := Lib.hid (show (fillB [] 32).size = (bcs xn).toArray.size by rw [show (bcs xn).toArray.size = (bcs xn).length from rfl, bcs_length, hn3]; rfl)
                    have hbi : BZ = (i : Int) := by rw [HBZX.out]; exact hi2
                    have hszz := HBZ.out.size
                    have HRSr := Lib.hid (HRS.out.under HBZ.out)
                    clear hi1 hi2 hei hwei hx1 hx3 hx4 hn1 hn3 hn4 hxn hxo hxp hxc hxe hcsx hei2 hbz
                    subst hbi
                    have hdi : ((i : Int) < 0) = False := by simp
                    have hdl : (i : Int) < (W2.length : Int) := by omega
                    go_upto_region 24 with fail
                    clear hd1
                    go_cut [11, 12] from 79 to 200 (fun v11 v12 wx => ∃ (k11 k12 : Nat), v11 = .pointer (some ⟨k11, 0, none⟩) ∧ v12 = .pointer (some ⟨k12, 0, none⟩) ∧ wO.heap.size ≤ k11 ∧ wO.heap.size ≤ k12 ∧ k11 < wx.heap.size ∧ k12 < wx.heap.size ∧ Hid (cellsAt wx k11 0 (xo.cs xp xc)) ∧ Hid (cellsAt wx k12 0 (bcs xn)) ∧ Hid (Below wO.heap.size wO wx))
                    case first =>
                      obtain ⟨NQ, hNQa, hNQb⟩ : ∃ n, wr.heap.size ≤ n ∧ n ≤ wr.heap.size := ⟨_, Nat.le_refl _, Nat.le_refl _⟩
                      refine wp_region_noPanic ?_
                      refine wp_region_till 17 (fun w' => Below NQ wr w') (by kernel_rfl) (by kernel_rfl) ?_
                      obtain ⟨wQ, hwQ⟩ : ∃ wQ, wQ = wr.drew := ⟨_, rfl⟩
                      have hSwQ : Below NQ wr wQ := by rw [hwQ]; exact (Below.refl NQ wr).drew
                      rw [← hwQ]
                      have HSQ := Lib.hid hSwQ
                      have hzwQ : wr.heap.size ≤ wQ.heap.size := by rw [hwQ]; exact Nat.le_refl _
                      clear hwQ hSwQ
                      go_simp
                      refine Till.pure 0 rfl rfl (by kernel_rfl) (NoPanic.noFrame _) HSQ.out ?_
                      go_big_quiet_step (fail)
                      refine wpQuiet_nil ?_
                      refine Till.pure 1 rfl rfl (by kernel_rfl) (NoPanic.noFrame _) HSQ.out ?_
                      go_big_quiet_step (fail)
                      refine wpQuiet_nil ?_
                      refine Till.pure 2 rfl rfl (by kernel_rfl) (NoPanic.noFrame _) HSQ.out ?_
                      go_big_quiet_step (fail)
                      refine wpQuiet_nil ?_
                      refine Till.load 3 35 _ ⟨b, 1, none⟩ (.slice (some ⟨gW, oW, none⟩) W2.length cw) rfl rfl rfl rfl (by kernel_rfl) (NoPanic.noFrame _) HSQ.out (fun w' hw' => run_loadVar_one Tryz.underlying35 rfl (HRSr.out.below hw' hNQa).c1) ?_
                      go_simp
                      refine Till.pure 4 rfl rfl (by kernel_rfl) (NoPanic.noFrame _) HSQ.out ?_
                      go_big_quiet_step (fail)
                      refine wpQuiet_nil ?_
                      refine Till.pure 5 rfl rfl (by kernel_rfl) (NoPanic.noFrame _) HSQ.out ?_
                      go_big_quiet_step (fail)
                      refine wpQuiet_nil ?_
                      refine Till.load 6 46 _ ⟨gW, oW + i * 38, none⟩ (.agg (xo.cs xp xc).toArray) rfl rfl rfl rfl (by kernel_rfl) (NoPanic.noFrame _) HSQ.out (fun w' hw' => run_loadAgg Tryz.underlying46 rfl (by rw [opInfo, HC38.out]) (HXC.out.of_block (hw'.block _ (by omega)))) ?_
                      go_simp
                      refine Till.pure 7 rfl rfl (by kernel_rfl) (NoPanic.noFrame _) HSQ.out ?_
                      go_big_quiet_step (fail)
                      refine wpQuiet_nil ?_
                      refine Till.pure 8 rfl rfl (by kernel_rfl) (NoPanic.noFrame _) HSQ.out ?_
                      go_big_quiet_step (fail)
                      refine wpQuiet_nil ?_
                      refine Till.pure 9 rfl rfl (by kernel_rfl) (NoPanic.noFrame _) HSQ.out ?_
                      go_big_quiet_step (fail)
                      refine wpQuiet_nil ?_
                      refine Till.load 10 28 _ ⟨b, 3, none⟩ (.slice (some ⟨gm, om, none⟩) W2.length cm) rfl rfl rfl rfl (by kernel_rfl) (NoPanic.noFrame _) HSQ.out (fun w' hw' => run_loadVar_one Tryz.underlying28 rfl (HRSr.out.below hw' hNQa).c3) ?_
                      go_simp
                      refine Till.pure 11 rfl rfl (by kernel_rfl) (NoPanic.noFrame _) HSQ.out ?_
                      go_big_quiet_step (fail)
                      refine wpQuiet_nil ?_
                      refine Till.pure 12 rfl rfl (by kernel_rfl) (NoPanic.noFrame _) HSQ.out ?_
                      go_big_quiet_step (fail)
                      refine wpQuiet_nil ?_
                      refine Till.load 13 31 _ ⟨gm, om + i * 32, none⟩ (idv xn) rfl rfl rfl rfl (by kernel_rfl) (NoPanic.noFrame _) HSQ.out (fun w' hw' => run_loadAgg Tryz.underlying31 rfl (by rw [HI.out, bcs_length, HN32.out]) (HXN.out.of_block (hw'.block _ (by omega)))) ?_
                      go_simp
                      have hB0 := HBZ.out.trans ((HSQ.out.mono hNQa).mono (by omega))
                      have HB0 := Lib.hid hB0
                      clear hB0
                      refine Till.two 14 15 rfl rfl (by kernel_rfl) (by kernel_rfl) (by kernel_rfl) rfl rfl ?_ ?_
                      · intro K hK
                        refine wp_allocZ _ 46 rfl _ HZO.out ?_
                        have hSa := HSQ.out.alloc (by omega) (.cells (Value.agg (zeroOp.cs none 0).toArray).cells 46)
                        refine hK _ _ hSa ?_
                        clear hK K
                        go_simp
                        refine Till.act 15 rfl rfl (by kernel_rfl) rfl ?_
                        · intro K hK
                          refine wp_allocZ _ 31 rfl _ HZ.out ?_
                          obtain ⟨wb, hwb⟩ : ∃ wb, wb = (wQ.alloc (.cells (zeroOp.cs none 0).toArray 46)).alloc (.cells (Value.agg (fillB [] 32)).cells 31) := ⟨_, rfl⟩
                          have ra : wb.heap[wQ.heap.size]? = some (.cells (zeroOp.cs none 0).toArray 46 (0, 0)) := by rw [hwb]; exact ((MapKept.heap_alloc _ _).2 _ (by simp)).trans (MapKept.heap_alloc _ _).1
                          have rb : wb.heap[wQ.heap.size + 1]? = some (.cells (fillB [] 32) 31 (0, 0)) := by rw [hwb]; exact heap_alloc2 _ _ _
                          have hzb : wb.heap.size = wQ.heap.size + 2 := by rw [hwb]; simp
                          have hSb : Below NQ wr wb := by rw [hwb]; exact hSa.alloc (by rw [World.size_alloc]; omega) _
                          rw [show (wQ.alloc (.cells (zeroOp.cs none 0).toArray 46)).alloc (.cells (Value.agg (fillB [] 32)).cells 31) = wb from hwb.symm]
                          clear hwb
                          refine hK _ _ hSb ?_
                          clear hK K
                          go_simp
                          refine Till.act 16 rfl rfl (by kernel_rfl) rfl ?_
                          intro K hK
                          refine wp_storeRow 46 _ _ rfl ra (by rfl) (xo.cs xp xc).toArray (by rfl) (by rw [opInfo, List.size_toArray, HC38.out]) (show 38 = (xo.cs xp xc).toArray.size by rw [List.size_toArray, HC38.out]) (by simpa using HONX.out) ?_
                          intro wX r11 hgX hsX
                          have hSX := hSb.grown hgX (by omega) (fun k e => by have := Option.some.inj e; omega)
                          have r12 := (hgX.block (wQ.heap.size + 1) (by omega) (fun e => by have := Option.some.inj e; omega)).trans rb
                          refine hK _ _ hSX ?_
                          clear hK K
                          have hbX : Below wO.heap.size wO wX := HBZ.out.trans ((hSX.mono hNQa).mono (by omega))
                          go_simp
                          refine Till.tail _ rfl rfl (by kernel_rfl) (by kernel_rfl) ?_
                          refine wpList_storeRow rfl 31 _ _ rfl r12 (by rfl) (bcs xn).toArray (by rfl) (by rw [HI.out, List.size_toArray, bcs_length, HN32.out]) HZN.out (by simpa using bcs_one xn) ?_
                          intro w99 hw99 hg99 hs99
                          have hL12 := (Array.getElem?_eq_some_iff.1 r12).1
                          have hL11 := (Array.getElem?_eq_some_iff.1 r11).1
                          have hF1 := Lib.hid (show cellsAt w99 (wQ.heap.size) 0 (xo.cs xp xc) from fun j u hj => by rw [cell_of_row _ _ _ _ _ _ ((hg99.block _ hL11 (fun e => by have := Option.some.inj e; omega)).trans r11), Nat.zero_add]; simpa using hj)
                          have hF2 := Lib.hid (show cellsAt w99 (wQ.heap.size + 1) 0 (bcs xn) from fun j u hj => by rw [cell_of_row _ _ _ _ _ _ hw99, Nat.zero_add]; simpa using hj)
                          have hF3 := Lib.hid (hbX.grown hg99 (by omega) (fun k e => by have := Option.some.inj e; omega))
                          have hq1 : wO.heap.size ≤ wQ.heap.size := by omega
                          have hq2 : wO.heap.size ≤ wQ.heap.size + 1 := by omega
                          have hq3 : wQ.heap.size < w99.heap.size := by omega
                          have hq4 : wQ.heap.size + 1 < w99.heap.size := by omega
                          clear r11 r12 hw99 hg99 hbX
                          go_wp2
                          refine NoPanic.normal ?_
                          go_wp2
                          go_meet
                          exact ⟨_, _, rfl, rfl, hq1, hq2, hq3, hq4, hF1, hF2, hF3⟩
                      · intro K hK
                        refine wp_allocZ _ 31 rfl _ HZ.out ?_
                        have hSa := HSQ.out.alloc (by omega) (.cells (Value.agg (fillB [] 32)).cells 31)
                        refine hK _ _ hSa ?_
                        clear hK K
                        go_simp
                        refine Till.act 14 rfl rfl (by kernel_rfl) rfl ?_
                        intro K hK
                        refine wp_allocZ _ 46 rfl _ HZO.out ?_
                        obtain ⟨wb, hwb⟩ : ∃ wb, wb = (wQ.alloc (.cells (fillB [] 32) 31)).alloc (.cells (Value.agg (zeroOp.cs none 0).toArray).cells 46) := ⟨_, rfl⟩
                        have ra : wb.heap[wQ.heap.size + 1]? = some (.cells (zeroOp.cs none 0).toArray 46 (0, 0)) := by rw [hwb]; exact heap_alloc2 _ _ _
                        have rb : wb.heap[wQ.heap.size]? = some (.cells (fillB [] 32) 31 (0, 0)) := by rw [hwb]; exact ((MapKept.heap_alloc _ _).2 _ (by simp)).trans (MapKept.heap_alloc _ _).1
                        have hzb : wb.heap.size = wQ.heap.size + 2 := by rw [hwb]; simp
                        have hSb : Below NQ wr wb := by rw [hwb]; exact hSa.alloc (by rw [World.size_alloc]; omega) _
                        rw [show (wQ.alloc (.cells (fillB [] 32) 31)).alloc (.cells (Value.agg (zeroOp.cs none 0).toArray).cells 46) = wb from hwb.symm, World.size_alloc]
                        clear hwb
                        refine hK _ _ hSb ?_
                        clear hK K
                        go_simp
                        refine Till.act 16 rfl rfl (by kernel_rfl) rfl ?_
                        intro K hK
                        refine wp_storeRow 46 _ _ rfl ra (by rfl) (xo.cs xp xc).toArray (by rfl) (by rw [opInfo, List.size_toArray, HC38.out]) (show 38 = (xo.cs xp xc).toArray.size by rw [List.size_toArray, HC38.out]) (by simpa using HONX.out) ?_
                        intro wX r11 hgX hsX
                        have hSX := hSb.grown hgX (by omega) (fun k e => by have := Option.some.inj e; omega)
                        have r12 := (hgX.block wQ.heap.size (by omega) (fun e => by have := Option.some.inj e; omega)).trans rb
                        refine hK _ _ hSX ?_
                        clear hK K
                        have hbX : Below wO.heap.size wO wX := HBZ.out.trans ((hSX.mono hNQa).mono (by omega))
                        go_simp
                        refine Till.tail _ rfl rfl (by kernel_rfl) (by kernel_rfl) ?_
                        refine wpList_storeRow rfl 31 _ _ rfl r12 (by rfl) (bcs xn).toArray (by rfl) (by rw [HI.out, List.size_toArray, bcs_length, HN32.out]) HZN.out (by simpa using bcs_one xn) ?_
                        intro w99 hw99 hg99 hs99
                        have hL12 := (Array.getElem?_eq_some_iff.1 r12).1
                        have hL11 := (Array.getElem?_eq_some_iff.1 r11).1
                        have hF1 := Lib.hid (show cellsAt w99 (wQ.heap.size + 1) 0 (xo.cs xp xc) from fun j u hj => by rw [cell_of_row _ _ _ _ _ _ ((hg99.block _ hL11 (fun e => by have := Option.some.inj e; omega)).trans r11), Nat.zero_add]; simpa using hj)
                        have hF2 := Lib.hid (show cellsAt w99 (wQ.heap.size) 0 (bcs xn) from fun j u hj => by rw [cell_of_row _ _ _ _ _ _ hw99, Nat.zero_add]; simpa using hj)
                        have hF3 := Lib.hid (hbX.grown hg99 (by omega) (fun k e => by have := Option.some.inj e; omega))
                        have hq1 : wO.heap.size ≤ wQ.heap.size + 1 := by omega
                        have hq2 : wO.heap.size ≤ wQ.heap.size := by omega
                        have hq3 : wQ.heap.size + 1 < w99.heap.size := by omega
                        have hq4 : wQ.heap.size < w99.heap.size := by omega
                        clear r11 r12 hw99 hg99 hbX
                        go_wp2
                        refine NoPanic.normal ?_
                        go_wp2
                        go_meet
                        exact ⟨_, _, rfl, rfl, hq1, hq2, hq3, hq4, hF1, hF2, hF3⟩
                    case rest =>
                      obtain ⟨k11, k12, rfl, rfl, hk11, hk12, hk11b, hk12b, HC11, HC12, HBC⟩ := hcut
                      have HRwc := Lib.hid ((HRS.out.under HBC.out).raw)
                      have hzc := HBC.out.size
                      have H32W := Lib.hid HRS.out.m32
                      obtain ⟨W3, hW3⟩ : ∃ W3, W3 = W2.eraseIdx i := ⟨_, rfl⟩
                      have hl30 : W3.length = W2.length - 1 := by rw [hW3, List.length_eraseIdx_of_lt hiW]
                      have hl3a : W3.length < W2.length := by omega
                      have hl3b : W2.length ≤ W3.length + 1 := by omega
                      clear hl30
                      have HW3L := Lib.hid (show i + (W2.length - (i + 1)) = W3.length by omega)
                      have HLNV := Lib.hid (show (ocs W2).length = W2.length * 38 from flat_len H38.out)
                      have HERV := Lib.hid (show (ocs W2).take (i * 38) ++ (ocs W2).drop ((i + 1) * 38) = ocs W3 by rw [hW3]; exact flat_erase H38.out i)
                      have HONV := Lib.hid (show ∀ u ∈ ocs W2, u.oneCell' = true from fun u hu => by
                        obtain ⟨e, _, he2⟩ := List.mem_flatMap.1 hu
                        exact OpV.cs_one _ _ _ u he2)
                      have HW3M := Lib.hid (show ∀ e ∈ W3, e ∈ W2 from fun e he => List.mem_of_mem_eraseIdx (by rw [← hW3]; exact he))
                      have HW3E := Lib.hid (show W3.map E3.ent = (W2.map E3.ent).eraseIdx i by rw [hW3, erase_map])
                      have hbc : ∀ x ∈ W2.map (·.n), (bcs x).length = 32 := fun x hx => by rw [bcs_length, H32W.out x hx]
                      have HLNZ := Lib.hid (show (pcs (W2.map (·.n))).length = W2.length * 32 by rw [← List.length_map (f := fun e : E3 => e.n)]; exact flat_len hbc)
                      have HERZ := Lib.hid (show (pcs (W2.map (·.n))).take (i * 32) ++ (pcs (W2.map (·.n))).drop ((i + 1) * 32) = pcs (W3.map (·.n)) by
                        rw [hW3, ← erase_map]
                        exact flat_erase hbc i)
                      have HONZ := Lib.hid (show ∀ u ∈ pcs (W2.map (·.n)), u.oneCell' = true from fun u hu => by
                        obtain ⟨e, _, he2⟩ := List.mem_flatMap.1 hu
                        exact bcs_one _ u he2)
                      have hkb1 : k11 ≠ b := by omega
                      have hkb2 : k12 ≠ b := by omega
                      clear hW3 hbc
                      go_upto_region 25 with fail
                      obtain ⟨NV, hNVa, hNVb⟩ : ∃ n, wc.heap.size ≤ n ∧ n ≤ wc.heap.size := ⟨_, Nat.le_refl _, Nat.le_refl _⟩
                      have hbbV : b < wc.heap.size := HRwc.out.lt
                      have HCPV := Lib.hid (show W2.length ≤ cw from HRwc.out.wait.cap_le.1)
                      have HSRV := Lib.hid (show Src wc (some ⟨gW, oW, none⟩) (ocs W2) from HRwc.out.wait.srcOf)
                      refine wp_region_noPanic ?_
                      refine wp_region_till 19 (fun w' => Below NV wc w') (by kernel_rfl) (by kernel_rfl) ?_
                      obtain ⟨wAV, hwAV⟩ : ∃ wAV, wAV = wc.drew := ⟨_, rfl⟩
                      have hSwAV : Below NV wc wAV := by rw [hwAV]; exact (Below.refl NV wc).drew
                      rw [← hwAV]
                      have HSV := Lib.hid hSwAV
                      have hzwAV : wc.heap.size ≤ wAV.heap.size := by rw [hwAV]; exact Nat.le_refl _
                      clear hwAV hSwAV
                      go_simp
                      refine Till.pure 0 rfl rfl (by kernel_rfl) (NoPanic.noFrame _) HSV.out ?_
                      go_big_quiet_step (fail)
                      refine wpQuiet_nil ?_
                      refine Till.pure 2 rfl rfl (by kernel_rfl) (NoPanic.noFrame _) HSV.out ?_
                      go_big_quiet_step (fail)
                      refine wpQuiet_nil ?_
                      refine Till.pure 3 rfl rfl (by kernel_rfl) (NoPanic.noFrame _) HSV.out ?_
                      go_big_quiet_step (fail)
                      refine wpQuiet_nil ?_
                      refine Till.pure 4 rfl rfl (by kernel_rfl) (NoPanic.noFrame _) HSV.out ?_
                      go_big_quiet_step (fail)
                      refine wpQuiet_nil ?_
                      refine Till.load 5 35 _ ⟨b, 1, none⟩ (.slice (some ⟨gW, oW, none⟩) W2.length cw) rfl rfl rfl rfl (by kernel_rfl) (NoPanic.noFrame _) HSV.out (fun w' hw' => run_loadVar_one Tryz.underlying35 rfl (HRwc.out.below hw' hNVa).c1) ?_
                      go_simp
                      refine Till.pure 6 rfl rfl (by kernel_rfl) (NoPanic.noFrame _) HSV.out ?_
                      go_big_quiet_step (fail)
                      refine wpQuiet_nil ?_
                      refine Till.hi 7 35 _ _ rfl rfl rfl 46 38 Tryz.underlying35 opInfo (some ⟨gW, oW, none⟩) W2.length cw i .i64 rfl rfl (by have := HCPV.out; omega) (fun a e => by cases e; rfl) (by kernel_rfl) (NoPanic.noFrame _) HSV.out ?_
                      go_simp
                      refine Till.pure 9 rfl rfl (by kernel_rfl) (NoPanic.noFrame _) HSV.out ?_
                      go_big_quiet_step (fail)
                      refine wpQuiet_nil ?_
                      refine Till.pure 10 rfl rfl (by kernel_rfl) (NoPanic.noFrame _) HSV.out ?_
                      go_big_quiet_step (fail)
                      refine wpQuiet_nil ?_
                      refine Till.pure 11 rfl rfl (by kernel_rfl) (NoPanic.noFrame _) HSV.out ?_
                      go_big_quiet_step (fail)
                      refine wpQuiet_nil ?_
                      refine Till.load 12 35 _ ⟨b, 1, none⟩ (.slice (some ⟨gW, oW, none⟩) W2.length cw) rfl rfl rfl rfl (by kernel_rfl) (NoPanic.noFrame _) HSV.out (fun w' hw' => run_loadVar_one Tryz.underlying35 rfl (HRwc.out.below hw' hNVa).c1) ?_
                      go_simp
                      refine Till.pure 13 rfl rfl (by kernel_rfl) (NoPanic.noFrame _) HSV.out ?_
                      go_big_quiet_step (fail)
                      refine wpQuiet_nil ?_
                      refine Till.pure 14 rfl rfl (by kernel_rfl) (NoPanic.noFrame _) HSV.out ?_
                      go_big_quiet_step (fail)
                      refine wpQuiet_nil ?_
                      refine Till.lo 15 35 _ _ rfl rfl rfl 46 38 Tryz.underlying35 opInfo (some ⟨gW, oW, none⟩) W2.length cw (i + 1) .i64 _ ?_ rfl rfl (by omega) (by kernel_rfl) (NoPanic.noFrame _) HSV.out ?_
                      · first | omega | go_num | (simp; done)
                      go_simp
                      refine Till.act 1 rfl rfl (by kernel_rfl) rfl ?_
                      intro K hK
                      refine wp_buildNil 35 rfl 46 38 Tryz.underlying35 opInfo ?_
                      have hSbV := HSV.out.alloc (by omega) (.cells #[] 46)
                      have hObV := Owns.newNil wAV 0 46 38 (Nat.zero_le _)
                      obtain ⟨wBV, hwBV⟩ : ∃ wB, wB = wAV.alloc (.cells #[] 46) := ⟨_, rfl⟩
                      rw [← hwBV] at hSbV hObV ⊢
                      have hzBV : wAV.heap.size < wBV.heap.size := by rw [hwBV]; simp
                      clear hwBV
                      refine hK _ _ hSbV ?_
                      clear hK K
                      go_simp
                      refine Till.act 8 rfl rfl (by kernel_rfl) rfl ?_
                      intro K hK
                      refine wp_append_G _ _ 35 rfl 0 46 io _ 38 112 Tryz.underlying35 hio hoz0 hoz1 hoz2 (by rfl) (by omega) (.slice (some ⟨wAV.heap.size, 0, none⟩) 0 0) 0 [] (by rfl) hObV (some ⟨gW, oW, none⟩) i cw ((ocs W2).take (i * 38)) (by rfl) (by rw [List.length_take, HLNV.out]; exact Nat.min_eq_left (by omega)) ((HSRV.out.below hSbV hNVa).at_.take _) (fun a e => by cases e; rfl) (fun u hu => HONV.out u (List.mem_of_mem_take hu)) (by unfold maxLen; omega) (by omega) (Nat.zero_le _) ?_
                      intro v1V w1V ho1V hg1V ha1V
                      rw [Nat.zero_add, List.nil_append] at ho1V
                      have hz1V := hg1V.size
                      have hS1V := hSbV.grown hg1V (by omega) (fun k e => by have e2 : wAV.heap.size = k := Option.some.inj e; omega)
                      obtain ⟨p1V, c1V, rfl⟩ := ho1V.form
                      have hb1V : ∀ g, (Value.slice p1V i c1V).ownBlock = some g → NV ≤ g := fun g hg => by
                        rcases ha1V with h | h
                        · rw [h] at hg; have e2 : wAV.heap.size = g := Option.some.inj hg; omega
                        · rw [h] at hg; have := Option.some.inj hg; omega
                      clear hg1V ha1V hObV
                      refine hK _ _ hS1V ?_
                      clear hK K
                      go_simp
                      refine Till.act 16 rfl rfl (by kernel_rfl) rfl ?_
                      intro K hK
                      refine wp_append_G _ _ 35 rfl 0 46 io _ 38 112 Tryz.underlying35 hio hoz0 hoz1 hoz2 (by rfl) (by omega) (.slice p1V i c1V) i ((ocs W2).take (i * 38)) (by rfl) ho1V (loP (some ⟨gW, oW, none⟩) cw (i + 1) 38) (W2.length - (i + 1)) (cw - (i + 1)) ((ocs W2).drop ((i + 1) * 38)) (by rfl) (by rw [List.length_drop, HLNV.out]; omega) (loP_src (by omega) HCPV.out HLNV.out (HSRV.out.below hS1V hNVa).at_ (fun a e => by cases e; rfl)) (loP_spot (fun a e => by cases e; rfl)) (fun u hu => HONV.out u (List.mem_of_mem_drop hu)) (by unfold maxLen; omega) (by omega) (Nat.zero_le _) ?_
                      intro v2V w2V ho2V hg2V ha2V
                      rw [HW3L.out, HERV.out] at ho2V
                      have hz2V := hg2V.size
                      have hS2V := hS1V.grown hg2V (by omega) hb1V
                      obtain ⟨pV, cV, rfl⟩ := ho2V.form
                      have HATV := Lib.hid (show ∀ g, (Value.slice pV W3.length cV).ownBlock = some g → NV ≤ g from fun g hg => by
                        rcases ha2V with h | h
                        · rw [h] at hg; exact hb1V g hg
                        · rw [h] at hg; have := Option.some.inj hg; omega)
                      refine hK _ _ hS2V ?_
                      clear hK K
                      have HS2V := Lib.hid hS2V
                      have HOWV := Lib.hid ho2V
                      clear hg2V ha2V ho1V hb1V hSbV hS1V hS2V ho2V
                      go_simp
                      refine Till.pure 17 rfl rfl (by kernel_rfl) (NoPanic.noFrame _) HS2V.out ?_
                      go_big_quiet_step (fail)
                      refine wpQuiet_nil ?_
                      refine Till.pure 18 rfl rfl (by kernel_rfl) (NoPanic.noFrame _) HS2V.out ?_
                      go_big_quiet_step (fail)
                      refine wpQuiet_nil ?_
                      refine Till.tail _ rfl rfl (by kernel_rfl) (by kernel_rfl) ?_
                      have hbxV := (HS2V.out.block b (by omega)).trans HRwc.out.box
                      have hcbV : w2V.cell? ⟨b, 1, none⟩ = some (.slice (some ⟨gW, oW, none⟩) W2.length cw) := by simp [World.cell?, hbxV]
                      have hfbV : w2V.frozen? ⟨b, 1, none⟩ = false := by simp [World.frozen?, hbxV]
                      have HBXV := Lib.hid hbxV
                      clear hbxV
                      go_wp2
                      refine NoPanic.normal ?_
                      clear hcbV hfbV
                      obtain ⟨wV, hwV⟩ : ∃ w9, w9 = w2V.setCell ⟨b, 1, none⟩ (Value.slice pV W3.length cV) := ⟨_, rfl⟩
                      rw [← hwV]
                      have hg9V : w2V.grownBy wV (some b) := by rw [hwV]; exact grownBy_set _ _ _ _
                      have hb9V : wV.heap[b]? = some (.cells #[vo2, (Value.slice pV W3.length cV), vn2, (.slice (some ⟨gm, om, none⟩) W2.length cm)] 37 (0, 0)) := by
                        rw [hwV, setCell_eq_setRow w2V b 1 _ _ (0, 0) _ HBXV.out, setRow_heap w2V b _ _ _ (0, 0) HBXV.out]
                        rfl
                      have hz9V := hg9V.size
                      have HKwV := Lib.hid (show Keeps (fun i => i = b) wc wV from (Keeps.of_below (HS2V.out.mono hNVa)).trans (Keeps.of_grown hg9V (S := fun i => i = b) rfl))
                      have ho9V := HOWV.out.keep (w' := wV) (fun g hg => hg9V.block g (HOWV.out.lt hg).2 (fun e => by
                        have e' : b = g := (Option.some.inj e).symm
                        have := HATV.out g hg
                        omega))
                      have hn9V : ∀ g, (Value.slice pV W3.length cV).ownBlock = some g → wc.heap.size ≤ g := fun g hg => by have := HATV.out g hg; omega
                      have HRwV := Lib.hid (HRwc.out.set1 HKwV.out (fun i hi => .inl hi) hb9V ho9V (fun g hg => .inr (hn9V g hg)) (HRwc.out.ok' HKwV.out (fun i hi => hi ▸ HRwc.out.fb) (fun e he => .inr (HW3M.out e he))))
                      clear hwV hg9V hb9V ho9V hn9V
                      have hOwZ : Owns wV 0 31 32 (.slice (some ⟨gm, om, none⟩) W2.length cm) W2.length (pcs (W2.map (·.n))) := by have h := HRwV.out.waits; rw [List.length_map] at h; exact h
                      go_upto_region 26 with fail
                      obtain ⟨NZ, hNZa, hNZb⟩ : ∃ n, wV.heap.size ≤ n ∧ n ≤ wV.heap.size := ⟨_, Nat.le_refl _, Nat.le_refl _⟩
                      have hbbZ : b < wV.heap.size := HRwV.out.lt
                      have HCPZ := Lib.hid (show W2.length ≤ cm from hOwZ.cap_le.1)
                      have HSRZ := Lib.hid (show Src wV (some ⟨gm, om, none⟩) (pcs (W2.map (·.n))) from hOwZ.srcOf)
                      refine wp_region_noPanic ?_
                      refine wp_region_till 19 (fun w' => Below NZ wV w') (by kernel_rfl) (by kernel_rfl) ?_
                      obtain ⟨wAZ, hwAZ⟩ : ∃ wAZ, wAZ = wV.drew := ⟨_, rfl⟩
                      have hSwAZ : Below NZ wV wAZ := by rw [hwAZ]; exact (Below.refl NZ wV).drew
                      rw [← hwAZ]
                      have HSZ := Lib.hid hSwAZ
                      have hzwAZ : wV.heap.size ≤ wAZ.heap.size := by rw [hwAZ]; exact Nat.le_refl _
                      clear hwAZ hSwAZ
                      go_simp
                      refine Till.pure 0 rfl rfl (by kernel_rfl) (NoPanic.noFrame _) HSZ.out ?_
                      go_big_quiet_step (fail)
                      refine wpQuiet_nil ?_
                      refine Till.pure 2 rfl rfl (by kernel_rfl) (NoPanic.noFrame _) HSZ.out ?_
                      go_big_quiet_step (fail)
                      refine wpQuiet_nil ?_
                      refine Till.pure 3 rfl rfl (by kernel_rfl) (NoPanic.noFrame _) HSZ.out ?_
                      go_big_quiet_step (fail)
                      refine wpQuiet_nil ?_
                      refine Till.pure 4 rfl rfl (by kernel_rfl) (NoPanic.noFrame _) HSZ.out ?_
                      go_big_quiet_step (fail)
                      refine wpQuiet_nil ?_
                      refine Till.load 5 28 _ ⟨b, 3, none⟩ (.slice (some ⟨gm, om, none⟩) W2.length cm) rfl rfl rfl rfl (by kernel_rfl) (NoPanic.noFrame _) HSZ.out (fun w' hw' => run_loadVar_one Tryz.underlying28 rfl (HRwV.out.below hw' hNZa).c3) ?_
                      go_simp
                      refine Till.pure 6 rfl rfl (by kernel_rfl) (NoPanic.noFrame _) HSZ.out ?_
                      go_big_quiet_step (fail)
                      refine wpQuiet_nil ?_
                      refine Till.hi 7 28 _ _ rfl rfl rfl 31 32 Tryz.underlying28 HI.out (some ⟨gm, om, none⟩) W2.length cm i .i64 rfl rfl (by have := HCPZ.out; omega) (fun a e => by cases e; rfl) (by kernel_rfl) (NoPanic.noFrame _) HSZ.out ?_
                      go_simp
                      refine Till.pure 9 rfl rfl (by kernel_rfl) (NoPanic.noFrame _) HSZ.out ?_
                      go_big_quiet_step (fail)
                      refine wpQuiet_nil ?_
                      refine Till.pure 10 rfl rfl (by kernel_rfl) (NoPanic.noFrame _) HSZ.out ?_
                      go_big_quiet_step (fail)
                      refine wpQuiet_nil ?_
                      refine Till.pure 11 rfl rfl (by kernel_rfl) (NoPanic.noFrame _) HSZ.out ?_
                      go_big_quiet_step (fail)
                      refine wpQuiet_nil ?_
                      refine Till.load 12 28 _ ⟨b, 3, none⟩ (.slice (some ⟨gm, om, none⟩) W2.length cm) rfl rfl rfl rfl (by kernel_rfl) (NoPanic.noFrame _) HSZ.out (fun w' hw' => run_loadVar_one Tryz.underlying28 rfl (HRwV.out.below hw' hNZa).c3) ?_
                      go_simp
                      refine Till.pure 13 rfl rfl (by kernel_rfl) (NoPanic.noFrame _) HSZ.out ?_
                      go_big_quiet_step (fail)
                      refine wpQuiet_nil ?_
                      refine Till.pure 14 rfl rfl (by kernel_rfl) (NoPanic.noFrame _) HSZ.out ?_
                      go_big_quiet_step (fail)
                      refine wpQuiet_nil ?_
                      refine Till.lo 15 28 _ _ rfl rfl rfl 31 32 Tryz.underlying28 HI.out (some ⟨gm, om, none⟩) W2.length cm (i + 1) .i64 _ ?_ rfl rfl (by omega) (by kernel_rfl) (NoPanic.noFrame _) HSZ.out ?_
                      · first | omega | go_num | (simp; done)
                      go_simp
                      refine Till.act 1 rfl rfl (by kernel_rfl) rfl ?_
                      intro K hK
                      refine wp_buildNil 28 rfl 31 32 Tryz.underlying28 HI.out ?_
                      have hSbZ := HSZ.out.alloc (by omega) (.cells #[] 31)
                      have hObZ := Owns.newNil wAZ 0 31 32 (Nat.zero_le _)
                      obtain ⟨wBZ, hwBZ⟩ : ∃ wB, wB = wAZ.alloc (.cells #[] 31) := ⟨_, rfl⟩
                      rw [← hwBZ] at hSbZ hObZ ⊢
                      have hzBZ : wAZ.heap.size < wBZ.heap.size := by rw [hwBZ]; simp
                      clear hwBZ
                      refine hK _ _ hSbZ ?_
                      clear hK K
                      go_simp
                      refine Till.act 8 rfl rfl (by kernel_rfl) rfl ?_
                      intro K hK
                      refine wp_append_G _ _ 28 rfl 0 31 i0 _ 32 32 Tryz.underlying28 hi hz0 hz1 hz2 (by rfl) (by omega) (.slice (some ⟨wAZ.heap.size, 0, none⟩) 0 0) 0 [] (by rfl) hObZ (some ⟨gm, om, none⟩) i cm ((pcs (W2.map (·.n))).take (i * 32)) (by rfl) (by rw [List.length_take, HLNZ.out]; exact Nat.min_eq_left (by omega)) ((HSRZ.out.below hSbZ hNZa).at_.take _) (fun a e => by cases e; rfl) (fun u hu => HONZ.out u (List.mem_of_mem_take hu)) (by unfold maxLen; omega) (by omega) (Nat.zero_le _) ?_
                      intro v1Z w1Z ho1Z hg1Z ha1Z
                      rw [Nat.zero_add, List.nil_append] at ho1Z
                      have hz1Z := hg1Z.size
                      have hS1Z := hSbZ.grown hg1Z (by omega) (fun k e => by have e2 : wAZ.heap.size = k := Option.some.inj e; omega)
                      obtain ⟨p1Z, c1Z, rfl⟩ := ho1Z.form
                      have hb1Z : ∀ g, (Value.slice p1Z i c1Z).ownBlock = some g → NZ ≤ g := fun g hg => by
                        rcases ha1Z with h | h
                        · rw [h] at hg; have e2 : wAZ.heap.size = g := Option.some.inj hg; omega
                        · rw [h] at hg; have := Option.some.inj hg; omega
                      clear hg1Z ha1Z hObZ
                      refine hK _ _ hS1Z ?_
                      clear hK K
                      go_simp
                      refine Till.act 16 rfl rfl (by kernel_rfl) rfl ?_
                      intro K hK
                      refine wp_append_G _ _ 28 rfl 0 31 i0 _ 32 32 Tryz.underlying28 hi hz0 hz1 hz2 (by rfl) (by omega) (.slice p1Z i c1Z) i ((pcs (W2.map (·.n))).take (i * 32)) (by rfl) ho1Z (loP (some ⟨gm, om, none⟩) cm (i + 1) 32) (W2.length - (i + 1)) (cm - (i + 1)) ((pcs (W2.map (·.n))).drop ((i + 1) * 32)) (by rfl) (by rw [List.length_drop, HLNZ.out]; omega) (loP_src (by omega) HCPZ.out HLNZ.out (HSRZ.out.below hS1Z hNZa).at_ (fun a e => by cases e; rfl)) (loP_spot (fun a e => by cases e; rfl)) (fun u hu => HONZ.out u (List.mem_of_mem_drop hu)) (by unfold maxLen; omega) (by omega) (Nat.zero_le _) ?_
                      intro v2Z w2Z ho2Z hg2Z ha2Z
                      rw [HW3L.out, HERZ.out] at ho2Z
                      have hz2Z := hg2Z.size
                      have hS2Z := hS1Z.grown hg2Z (by omega) hb1Z
                      obtain ⟨pZ, cZ, rfl⟩ := ho2Z.form
                      have HATZ := Lib.hid (show ∀ g, (Value.slice pZ W3.length cZ).ownBlock = some g → NZ ≤ g from fun g hg => by
                        rcases ha2Z with h | h
                        · rw [h] at hg; exact hb1Z g hg
                        · rw [h] at hg; have := Option.some.inj hg; omega)
                      refine hK _ _ hS2Z ?_
                      clear hK K
                      have HS2Z := Lib.hid hS2Z
                      have HOWZ := Lib.hid ho2Z
                      clear hg2Z ha2Z ho1Z hb1Z hSbZ hS1Z hS2Z ho2Z
                      go_simp
                      refine Till.pure 17 rfl rfl (by kernel_rfl) (NoPanic.noFrame _) HS2Z.out ?_
                      go_big_quiet_step (fail)
                      refine wpQuiet_nil ?_
                      refine Till.pure 18 rfl rfl (by kernel_rfl) (NoPanic.noFrame _) HS2Z.out ?_
                      go_big_quiet_step (fail)
                      refine wpQuiet_nil ?_
                      refine Till.tail _ rfl rfl (by kernel_rfl) (by kernel_rfl) ?_
                      have hbxZ := (HS2Z.out.block b (by omega)).trans HRwV.out.box
                      have hcbZ : w2Z.cell? ⟨b, 3, none⟩ = some (.slice (some ⟨gm, om, none⟩) W2.length cm) := by simp [World.cell?, hbxZ]
                      have hfbZ : w2Z.frozen? ⟨b, 3, none⟩ = false := by simp [World.frozen?, hbxZ]
                      have HBXZ := Lib.hid hbxZ
                      clear hbxZ
                      go_wp2
                      refine NoPanic.normal ?_
                      clear hcbZ hfbZ
                      obtain ⟨wZ, hwZ⟩ : ∃ w9, w9 = w2Z.setCell ⟨b, 3, none⟩ (Value.slice pZ W3.length cZ) := ⟨_, rfl⟩
                      rw [← hwZ]
                      have hg9Z : w2Z.grownBy wZ (some b) := by rw [hwZ]; exact grownBy_set _ _ _ _
                      have hb9Z : wZ.heap[b]? = some (.cells #[vo2, (Value.slice pV W3.length cV), vn2, (Value.slice pZ W3.length cZ)] 37 (0, 0)) := by
                        rw [hwZ, setCell_eq_setRow w2Z b 3 _ _ (0, 0) _ HBXZ.out, setRow_heap w2Z b _ _ _ (0, 0) HBXZ.out]
                        rfl
                      have hz9Z := hg9Z.size
                      have HKwZ := Lib.hid (show Keeps (fun i => i = b) wV wZ from (Keeps.of_below (HS2Z.out.mono hNZa)).trans (Keeps.of_grown hg9Z (S := fun i => i = b) rfl))
                      have ho9Z := HOWZ.out.keep (w' := wZ) (fun g hg => hg9Z.block g (HOWZ.out.lt hg).2 (fun e => by
                        have e' : b = g := (Option.some.inj e).symm
                        have := HATZ.out g hg
                        omega))
                      have hn9Z : ∀ g, (Value.slice pZ W3.length cZ).ownBlock = some g → wV.heap.size ≤ g := fun g hg => by have := HATZ.out g hg; omega
                      have ho9Z' : Owns wZ 0 31 32 (Value.slice pZ W3.length cZ) (W3.map (·.n)).length (pcs (W3.map (·.n))) := by rw [List.length_map]; exact ho9Z
                      have HRwZ := Lib.hid (HRwV.out.set3 HKwZ.out (fun i hi => .inl hi) hb9Z ho9Z' (fun g hg => .inr (hn9Z g hg)) (fun x hx => by
                        obtain ⟨e, he1, he2⟩ := List.mem_map.1 hx
                        exact he2 ▸ H32W.out e.n (List.mem_map.2 ⟨e, HW3M.out e he1, rfl⟩)))
                      clear ho9Z'
                      clear hwZ hg9Z hb9Z ho9Z hn9Z
                      have HFZ := Lib.hid (show ∀ j, (withOwn (withOwn F2 (Value.slice pV W3.length cV)) (Value.slice pZ W3.length cZ)) j → F2 j ∨ wc.heap.size ≤ j from fun j hj => by
                        rcases hj with (hj | hj) | hj
                        · exact .inl hj
                        · have := HATV.out j hj; exact .inr (by omega)
                        · have := HATZ.out j hj; exact .inr (by omega))
                      have HKOZ := Lib.hid (show Keeps (fun j => j = b) wO wZ from ((Keeps.of_below HBC.out).trans HKwV.out).trans HKwZ.out)
                      have HXOKZ := Lib.hid (HXOK.out.ok' HKOZ.out (fun j off e1 hne e2 => HRS.out.apart j (e2 ▸ HRS.out.fb) (HXOK.out.at_ j off e1 hne)))
                      have HC11Z := Lib.hid (HC11.out.of_block ((HKwZ.out.block k11 (by omega) hkb1).trans (HKwV.out.block k11 (by omega) hkb1)))
                      have HC12Z := Lib.hid (HC12.out.of_block ((HKwZ.out.block k12 (by omega) hkb2).trans (HKwV.out.block k12 (by omega) hkb2)))
                      have HOWZ := Lib.hid (HOW.out.keep (w' := wZ) (fun g hg => HKOZ.out.block g (HOW.out.lt hg).2 (fun e => HOUT.out g hg (e ▸ HRS.out.fb))))
                      have HKPZ := Lib.hid (HKP.out.trans' HKOZ.out (fun j hj => HF2.out j (hj ▸ HRS.out.fb)))
                      have HOUTZ := Lib.hid (show ∀ g, (u7 : Value).ownBlock = some g → ¬ (withOwn (withOwn F2 (Value.slice pV W3.length cV)) (Value.slice pZ W3.length cZ)) g from fun g hg hf => by
                        rcases HFZ.out g hf with h | h
                        · exact HOUT.out g hg h
                        · have := (HOW.out.lt hg).2; omega)
                      have HSETZ := Lib.hid (show RefSet wZ b vo2 (Value.slice pV W3.length cV) vn2 (Value.slice pZ W3.length cZ) (withOwn (withOwn F2 (Value.slice pV W3.length cV)) (Value.slice pZ W3.length cZ)) B O2 W3 from RefRaw.set HRwZ.out)
                      have hF11 : ¬ (withOwn (withOwn F2 (Value.slice pV W3.length cV)) (Value.slice pZ W3.length cZ)) k11 := fun hf => by
                        rcases HFZ.out _ hf with h | h
                        · have := HRS.out.flt _ h; omega
                        · omega
                      have hF12 : ¬ (withOwn (withOwn F2 (Value.slice pV W3.length cV)) (Value.slice pZ W3.length cZ)) k12 := fun hf => by
                        rcases HFZ.out _ hf with h | h
                        · have := HRS.out.flt _ h; omega
                        · omega
                      have hN12 : ¬ F2 k12 := fun hf => by have := HRS.out.flt _ hf; omega
                      have HXE := Lib.hid (show (W2.map E3.ent)[i]? = some (xn, xo) by rw [List.getElem?_map, HX1.out]; rfl)
                      have HINS := Lib.hid (HINV.out.erase (i := i) (e := (xn, xo)) HXE.out)
                      have HDRG := Lib.hid (drain_go (s := ⟨O2.map E3.ent, W2.map E3.ent⟩) (out := out) (show bestI (O2.map E3.ent) (W2.map E3.ent) (W2.map E3.ent).length = some i by rw [List.length_map]; exact HBI.out) (e := (xn, xo)) HXE.out)
                      go_upto_region 27 with fail
                      obtain ⟨NG, hNGa, hNGb⟩ : ∃ n, wZ.heap.size ≤ n ∧ n ≤ wZ.heap.size := ⟨_, Nat.le_refl _, Nat.le_refl _⟩
                      obtain ⟨DDG, hDDG⟩ : ∃ DD, DD = depthOf (O2.map E3.ent) (xo) := ⟨_, rfl⟩
                      have HDDG := Lib.hid hDDG
                      clear hDDG
                      refine wp_region_noPanic ?_
                      refine wp_region_till 5 (fun w' => Below NG wZ w') (by kernel_rfl) (by kernel_rfl) ?_
                      obtain ⟨wAG, hwAG⟩ : ∃ wAG, wAG = wZ.drew := ⟨_, rfl⟩
                      have hSwAG : Below NG wZ wAG := by rw [hwAG]; exact (Below.refl NG wZ).drew
                      rw [← hwAG]
                      have HSG := Lib.hid hSwAG
                      have hzwAG : wZ.heap.size ≤ wAG.heap.size := by rw [hwAG]; exact Nat.le_refl _
                      clear hwAG hSwAG
                      go_simp
                      refine Till.pure 0 rfl rfl (by kernel_rfl) (NoPanic.noFrame _) HSG.out ?_
                      go_big_quiet_step (fail)
                      refine wpQuiet_nil ?_
                      refine Till.load 1 3 _ ⟨k11, 36, none⟩ (.int .i64 xo.depth) rfl rfl rfl rfl (by kernel_rfl) (NoPanic.noFrame _) HSG.out (fun w' hw' => run_loadVar_one Tryz.underlying3 rfl (OpV.cs_at HXOK.out.ok (HC11Z.out.of_block (hw'.block _ (by omega)))).2.1) ?_
                      go_simp
                      refine Till.pure 2 rfl rfl (by kernel_rfl) (NoPanic.noFrame _) HSG.out ?_
                      go_big_quiet_step (fail)
                      refine wpQuiet_nil ?_
                      refine Till.load 3 46 _ ⟨k11, 0, none⟩ (.agg (xo.cs xp xc).toArray) rfl rfl rfl rfl (by kernel_rfl) (NoPanic.noFrame _) HSG.out (fun w' hw' => run_loadAgg Tryz.underlying46 rfl (by rw [opInfo, HC38.out]) (HC11Z.out.of_block (hw'.block _ (by omega)))) ?_
                      go_simp
                      refine Till.act 4 rfl rfl (by kernel_rfl) rfl ?_
                      intro K hK
                      have hcd := rdepth_any b vo2 (Value.slice pV W3.length cV) vn2 (Value.slice pZ W3.length cZ) (withOwn (withOwn F2 (Value.slice pV W3.length cV)) (Value.slice pZ W3.length cZ)) B O2 W3 xo HXOK.out.ok xp xc wAG (HSETZ.out.below HSG.out hNGa) (by omega) (HXOKZ.out.src.below (HSG.out.mono hNGa) (Nat.le_refl _)) HWX.out
                      rw [← HDDG.out] at hcd
                      go_wp2_with (first | (go_at_call 68; refine hcd.mono ?_; rintro e w8G ⟨rfl, hb8G⟩))
                      have hz8G := hb8G.size
                      refine hK _ _ (HSG.out.trans (hb8G.mono (by omega))) ?_
                      clear hK K hcd
                      have HB8G := Lib.hid ((HSG.out.mono hNGa).trans (hb8G.mono (by omega)))
                      clear hb8G
                      refine Till.tail _ rfl rfl (by kernel_rfl) (by kernel_rfl) ?_
                      have hzG := HB8G.out.size
                      have HC12G := Lib.hid (HC12Z.out.of_block (HB8G.out.block _ (by omega)))
                      by_cases hdep2 : xo.depth = DDG
                      · have hdb : (xo.depth == DDG) = true := by simp [hdep2]
                        have HDEP2 := Lib.hid (show xo.depth = depthOf (O2.map E3.ent) xo by rw [hdep2, HDDG.out])
                        have HC11G := Lib.hid (HC11Z.out.of_block (HB8G.out.block _ (by omega)))
                        have HRw8G := Lib.hid ((HSETZ.out.under HB8G.out).raw)
                        have HXOKG := Lib.hid (HXOKZ.out.keeps HB8G.out.size (fun j hj _ => HB8G.out.block j hj))
                        go_wp2
                        refine NoPanic.normal ?_
                        go_upto_region 28 with fail
                        clear hdb hdep2
                        go_upto_region 28 with fail
                        refine wp_region_noPanic ?_
                        refine wp_region_till 10 (fun w' => Keeps (fun i => (vo2).ownBlock = some i) w8G w') (by kernel_rfl) (by kernel_rfl) ?_
                        obtain ⟨wAH, hwAH⟩ : ∃ wA, wA = w8G.drew := ⟨_, rfl⟩
                        have HBAH := Lib.hid (show Below w8G.heap.size w8G wAH by rw [hwAH]; exact (Below.refl _ w8G).drew)
                        have HSAH := Lib.hid (show Keeps (fun i => (vo2).ownBlock = some i) w8G wAH from Keeps.of_below HBAH.out)
                        rw [← hwAH]
                        have hzAH : w8G.heap.size ≤ wAH.heap.size := HBAH.out.size
                        clear hwAH
                        have hblH : k11 < w8G.heap.size := by omega
                        have hbbH : b < w8G.heap.size := HRw8G.out.lt
                        have HNBH := Lib.hid (show (vo2).ownBlock ≠ some b from HRw8G.out.ne0)
                        have HNKH := Lib.hid (show (vo2).ownBlock ≠ some (k11) from fun e => hF11 (HRw8G.out.fo _ e))
                        go_simp
                        refine Till.pure 0 rfl rfl (by kernel_rfl) (NoPanic.noFrame _) HSAH.out ?_
                        go_big_quiet_step (fail)
                        refine wpQuiet_nil ?_
                        refine Till.pure 1 rfl rfl (by kernel_rfl) (NoPanic.noFrame _) HSAH.out ?_
                        go_big_quiet_step (fail)
                        refine wpQuiet_nil ?_
                        refine Till.pure 2 rfl rfl (by kernel_rfl) (NoPanic.noFrame _) HSAH.out ?_
                        go_big_quiet_step (fail)
                        refine wpQuiet_nil ?_
                        refine Till.pure 3 rfl rfl (by kernel_rfl) (NoPanic.noFrame _) HSAH.out ?_
                        go_big_quiet_step (fail)
                        refine wpQuiet_nil ?_
                        refine Till.load 4 35 _ ⟨b, 0, none⟩ (vo2) rfl rfl rfl rfl (by kernel_rfl) (NoPanic.noFrame _) HSAH.out (fun w' hw' => run_loadVar_one Tryz.underlying35 rfl ((cell_eq (hw'.block b hbbH HNBH.out) 0).trans HRw8G.out.c0)) ?_
                        go_simp
                        refine Till.load 5 46 _ ⟨k11, 0, none⟩ (.agg (xo.cs xp xc).toArray) rfl rfl rfl rfl (by kernel_rfl) (NoPanic.noFrame _) HSAH.out (fun w' hw' => run_loadAgg Tryz.underlying46 rfl (by rw [opInfo, HC38.out]) (HC11G.out.of_block (hw'.block _ hblH HNKH.out))) ?_
                        go_simp
                        refine Till.act 6 rfl rfl (by kernel_rfl) rfl ?_
                        intro K hK
                        refine wp_buildOne 35 _ rfl 46 38 _ Tryz.underlying35 opInfo (by omega) (by omega) HZO.out (xo.cs xp xc).toArray (by rfl) (by rw [List.size_toArray, HC38.out]) ?_
                        have hSBH : Keeps (fun i => (vo2).ownBlock = some i) w8G (wAH.alloc (.cells (xo.cs xp xc).toArray 46)) := HSAH.out.trans (Keeps.of_below ((Below.refl _ wAH).alloc (Nat.le_refl _) _))
                        refine hK _ _ hSBH ?_
                        clear hK K
                        refine Till.act 7 rfl rfl (by kernel_rfl) rfl ?_
                        intro K hK
                        have hoBH : Owns (wAH.alloc (.cells (xo.cs xp xc).toArray 46)) 0 46 38 (vo2) (O2.length) (ocs O2) := by simpa using (HRw8G.out.ops.under HBAH.out).alloc (.cells (xo.cs xp xc).toArray 46)
                        refine wp_append_G _ _ 35 rfl 0 46 io _ 38 112 Tryz.underlying35 hio hoz0 hoz1 hoz2 (by rfl) (by omega) (vo2) (O2.length) (ocs O2) (by rfl) hoBH (some ⟨wAH.heap.size, 0, none⟩) 1 1 (xo.cs xp xc) (by rfl) (by rw [HC38.out]) (src_new wAH (xo.cs xp xc) 46) (fun a e => by cases e; rfl) (HONX.out) (by unfold maxLen; omega) (by omega) (Nat.zero_le _) ?_
                        intro vH w8H hownH hgH hatH
                        obtain ⟨pH, cH, rfl⟩ := hownH.form
                        have hz8H := hgH.size
                        rw [World.size_alloc] at hz8H hatH
                        have hSCH : Keeps (fun i => (vo2).ownBlock = some i) w8G w8H := hSBH.trans ⟨hgH.os, hgH.tape, hgH.output, hgH.size, fun i hi hs => hgH.block i hi (fun e => hs e.symm)⟩
                        refine hK _ _ hSCH ?_
                        clear hK K
                        have HSCH := Lib.hid hSCH
                        have HOWH := Lib.hid hownH
                        have HATH := Lib.hid (show ∀ g, (Value.slice pH (O2.length + 1) cH).ownBlock = some g → (vo2).ownBlock = some g ∨ w8G.heap.size ≤ g from fun g hg => by
                          rcases hatH with h | h
                          · exact .inl (h ▸ hg)
                          · rw [h] at hg
                            have := Option.some.inj hg
                            exact .inr (by omega))
                        clear hSBH hoBH hownH hgH hatH hSCH
                        go_simp
                        refine Till.pure 8 rfl rfl (by kernel_rfl) (NoPanic.noFrame _) HSCH.out ?_
                        go_big_quiet_step (fail)
                        refine wpQuiet_nil ?_
                        refine Till.pure 9 rfl rfl (by kernel_rfl) (NoPanic.noFrame _) HSCH.out ?_
                        go_big_quiet_step (fail)
                        refine wpQuiet_nil ?_
                        refine Till.tail _ rfl rfl (by kernel_rfl) (by kernel_rfl) ?_
                        have hbxH := (HSCH.out.block b hbbH HNBH.out).trans HRw8G.out.box
                        have hcbH : w8H.cell? ⟨b, 0, none⟩ = some (vo2) := by simp [World.cell?, hbxH]
                        have hfbH : w8H.frozen? ⟨b, 0, none⟩ = false := by simp [World.frozen?, hbxH]
                        have HBXH := Lib.hid hbxH
                        clear hbxH
                        go_wp2
                        refine NoPanic.normal ?_
                        clear hcbH hfbH
                        obtain ⟨wP, hwP⟩ : ∃ w9, w9 = w8H.setCell ⟨b, 0, none⟩ (Value.slice pH (O2.length + 1) cH) := ⟨_, rfl⟩
                        rw [← hwP]
                        have hg9H : w8H.grownBy wP (some b) := by rw [hwP]; exact grownBy_set _ _ _ _
                        have hb9H : wP.heap[b]? = some (.cells #[(Value.slice pH (O2.length + 1) cH), (Value.slice pV W3.length cV), vn2, (Value.slice pZ W3.length cZ)] 37 (0, 0)) := by
                          rw [hwP, setCell_eq_setRow w8H b 0 _ _ (0, 0) _ HBXH.out, setRow_heap w8H b _ _ _ (0, 0) HBXH.out]
                          rfl
                        have hz9H := hg9H.size
                        have HKwP := Lib.hid (show Keeps (fun i => i = b ∨ (vo2).ownBlock = some i) w8G wP from (HSCH.out.mono (fun i hi => .inr hi)).trans (Keeps.of_grown hg9H (S := fun i => i = b ∨ (vo2).ownBlock = some i) (.inl rfl)))
                        have ho9H := HOWH.out.keep (w' := wP) (fun g hg => hg9H.block g (HOWH.out.lt hg).2 (fun e => by
                          have e' : b = g := (Option.some.inj e).symm
                          rcases HATH.out g hg with h1 | h1
                          · exact HNBH.out (e' ▸ h1)
                          · omega))
                        have hokAH : ∀ e ∈ O2 ++ [(⟨xn, xo, xp, xc⟩ : E3)], e.Ok wP B := by
                          have hSF : ∀ i, (i = b ∨ (vo2).ownBlock = some i) → (withOwn (withOwn F2 (Value.slice pV W3.length cV)) (Value.slice pZ W3.length cZ)) i := fun i hi => hi.elim (fun e => e ▸ HRw8G.out.fb) (HRw8G.out.fo i)
                          intro e he
                          rcases List.mem_append.1 he with he | he
                          · exact HRw8G.out.ok' HKwP.out hSF (fun e he => .inl he) e he
                          · rw [List.mem_singleton.1 he]
                            refine E3.Ok.ok' (B := B) (S := fun i => i = b ∨ (vo2).ownBlock = some i) HXOKG.out HKwP.out (fun i off e1 hne e2 => HRw8G.out.apart i (hSF i e2) (HXOKG.out.at_ i off e1 hne))
                        have hoNH : Owns wP 0 46 38 (Value.slice pH (O2.length + 1) cH) (O2 ++ [(⟨xn, xo, xp, xc⟩ : E3)]).length (ocs (O2 ++ [(⟨xn, xo, xp, xc⟩ : E3)])) := by
                          rw [← (show O2.length + 1 = (O2 ++ [(⟨xn, xo, xp, xc⟩ : E3)]).length by simp), ← (show ocs O2 ++ xo.cs xp xc = ocs (O2 ++ [(⟨xn, xo, xp, xc⟩ : E3)]) by simp [ocs, E3.cs])]
                          exact ho9H
                        have HRwP := Lib.hid (HRw8G.out.set0 HKwP.out (fun i hi => hi) hb9H hoNH HATH.out hokAH)
                        have hF0H : ¬ (withOwn (withOwn (withOwn F2 (Value.slice pV W3.length cV)) (Value.slice pZ W3.length cZ)) (Value.slice pH (O2.length + 1) cH)) k11 := fun hf => hf.elim hF11 (fun e => (HATH.out _ e).elim (fun e2 => hF11 (HRw8G.out.fo _ e2)) (fun e2 => by omega))
                        have hF1H : ¬ (withOwn (withOwn (withOwn F2 (Value.slice pV W3.length cV)) (Value.slice pZ W3.length cZ)) (Value.slice pH (O2.length + 1) cH)) k12 := fun hf => hf.elim hF12 (fun e => (HATH.out _ e).elim (fun e2 => hF12 (HRw8G.out.fo _ e2)) (fun e2 => by omega))
                        clear hoNH
                        clear hwP hg9H hb9H ho9H
                        have HC12P := Lib.hid (HC12G.out.of_block (HKwP.out.block k12 (by omega) (fun e => e.elim (fun e => hF12 (e ▸ HRw8G.out.fb)) (fun e => hF12 (HRw8G.out.fo _ e)))))
                        have hk12P : k12 < wP.heap.size := by omega
                        go_upto_region 29 with fail
                        refine wp_region_noPanic ?_
                        refine wp_region_till 10 (fun w' => Keeps (fun i => (vn2).ownBlock = some i) wP w') (by kernel_rfl) (by kernel_rfl) ?_
                        obtain ⟨wAI, hwAI⟩ : ∃ wA, wA = wP.drew := ⟨_, rfl⟩
                        have HBAI := Lib.hid (show Below wP.heap.size wP wAI by rw [hwAI]; exact (Below.refl _ wP).drew)
                        have HSAI := Lib.hid (show Keeps (fun i => (vn2).ownBlock = some i) wP wAI from Keeps.of_below HBAI.out)
                        rw [← hwAI]
                        have hzAI : wP.heap.size ≤ wAI.heap.size := HBAI.out.size
                        clear hwAI
                        have hblI : k12 < wP.heap.size := by omega
                        have hbbI : b < wP.heap.size := HRwP.out.lt
                        have HNBI := Lib.hid (show (vn2).ownBlock ≠ some b from HRwP.out.ne2)
                        have HNKI := Lib.hid (show (vn2).ownBlock ≠ some (k12) from fun e => hF1H (HRwP.out.fn _ e))
                        go_simp
                        refine Till.pure 0 rfl rfl (by kernel_rfl) (NoPanic.noFrame _) HSAI.out ?_
                        go_big_quiet_step (fail)
                        refine wpQuiet_nil ?_
                        refine Till.pure 1 rfl rfl (by kernel_rfl) (NoPanic.noFrame _) HSAI.out ?_
                        go_big_quiet_step (fail)
                        refine wpQuiet_nil ?_
                        refine Till.pure 2 rfl rfl (by kernel_rfl) (NoPanic.noFrame _) HSAI.out ?_
                        go_big_quiet_step (fail)
                        refine wpQuiet_nil ?_
                        refine Till.pure 3 rfl rfl (by kernel_rfl) (NoPanic.noFrame _) HSAI.out ?_
                        go_big_quiet_step (fail)
                        refine wpQuiet_nil ?_
                        refine Till.load 4 28 _ ⟨b, 2, none⟩ (vn2) rfl rfl rfl rfl (by kernel_rfl) (NoPanic.noFrame _) HSAI.out (fun w' hw' => run_loadVar_one Tryz.underlying28 rfl ((cell_eq (hw'.block b hbbI HNBI.out) 2).trans HRwP.out.c2)) ?_
                        go_simp
                        refine Till.load 5 31 _ ⟨k12, 0, none⟩ (.agg (bcs xn).toArray) rfl rfl rfl rfl (by kernel_rfl) (NoPanic.noFrame _) HSAI.out (fun w' hw' => run_loadAgg Tryz.underlying31 rfl (by rw [HI.out, bcs_length, HN32.out]) (HC12P.out.of_block (hw'.block _ hblI HNKI.out))) ?_
                        go_simp
                        refine Till.act 6 rfl rfl (by kernel_rfl) rfl ?_
                        intro K hK
                        refine wp_buildOne 28 _ rfl 31 32 _ Tryz.underlying28 HI.out (by omega) (by omega) HZ.out (bcs xn).toArray (by rfl) (by rw [List.size_toArray, bcs_length, HN32.out]) ?_
                        have hSBI : Keeps (fun i => (vn2).ownBlock = some i) wP (wAI.alloc (.cells (bcs xn).toArray 31)) := HSAI.out.trans (Keeps.of_below ((Below.refl _ wAI).alloc (Nat.le_refl _) _))
                        refine hK _ _ hSBI ?_
                        clear hK K
                        refine Till.act 7 rfl rfl (by kernel_rfl) rfl ?_
                        intro K hK
                        have hoBI : Owns (wAI.alloc (.cells (bcs xn).toArray 31)) 0 31 32 (vn2) (O2.length) (pcs (O2.map (·.n))) := by simpa using (HRwP.out.names.under HBAI.out).alloc (.cells (bcs xn).toArray 31)
                        refine wp_append_G _ _ 28 rfl 0 31 i0 _ 32 32 Tryz.underlying28 hi hz0 hz1 hz2 (by rfl) (by omega) (vn2) (O2.length) (pcs (O2.map (·.n))) (by rfl) hoBI (some ⟨wAI.heap.size, 0, none⟩) 1 1 (bcs xn) (by rfl) (by rw [bcs_length, HN32.out]) (src_new wAI (bcs xn) 31) (fun a e => by cases e; rfl) (bcs_one xn) (by unfold maxLen; omega) (by omega) (Nat.zero_le _) ?_
                        intro vI w8I hownI hgI hatI
                        obtain ⟨pI, cI, rfl⟩ := hownI.form
                        have hz8I := hgI.size
                        rw [World.size_alloc] at hz8I hatI
                        have hSCI : Keeps (fun i => (vn2).ownBlock = some i) wP w8I := hSBI.trans ⟨hgI.os, hgI.tape, hgI.output, hgI.size, fun i hi hs => hgI.block i hi (fun e => hs e.symm)⟩
                        refine hK _ _ hSCI ?_
                        clear hK K
                        have HSCI := Lib.hid hSCI
                        have HOWI := Lib.hid hownI
                        have HATI := Lib.hid (show ∀ g, (Value.slice pI (O2.length + 1) cI).ownBlock = some g → (vn2).ownBlock = some g ∨ wP.heap.size ≤ g from fun g hg => by
                          rcases hatI with h | h
                          · exact .inl (h ▸ hg)
                          · rw [h] at hg
                            have := Option.some.inj hg
                            exact .inr (by omega))
                        clear hSBI hoBI hownI hgI hatI hSCI
                        go_simp
                        refine Till.pure 8 rfl rfl (by kernel_rfl) (NoPanic.noFrame _) HSCI.out ?_
                        go_big_quiet_step (fail)
                        refine wpQuiet_nil ?_
                        refine Till.pure 9 rfl rfl (by kernel_rfl) (NoPanic.noFrame _) HSCI.out ?_
                        go_big_quiet_step (fail)
                        refine wpQuiet_nil ?_
                        refine Till.tail _ rfl rfl (by kernel_rfl) (by kernel_rfl) ?_
                        have hbxI := (HSCI.out.block b hbbI HNBI.out).trans HRwP.out.box
                        have hcbI : w8I.cell? ⟨b, 2, none⟩ = some (vn2) := by simp [World.cell?, hbxI]
                        have hfbI : w8I.frozen? ⟨b, 2, none⟩ = false := by simp [World.frozen?, hbxI]
                        have HBXI := Lib.hid hbxI
                        clear hbxI
                        go_wp2
                        refine NoPanic.normal ?_
                        clear hcbI hfbI
                        obtain ⟨wR, hwR⟩ : ∃ w9, w9 = w8I.setCell ⟨b, 2, none⟩ (Value.slice pI (O2.length + 1) cI) := ⟨_, rfl⟩
                        rw [← hwR]
                        have hg9I : w8I.grownBy wR (some b) := by rw [hwR]; exact grownBy_set _ _ _ _
                        have hb9I : wR.heap[b]? = some (.cells #[(Value.slice pH (O2.length + 1) cH), (Value.slice pV W3.length cV), (Value.slice pI (O2.length + 1) cI), (Value.slice pZ W3.length cZ)] 37 (0, 0)) := by
                          rw [hwR, setCell_eq_setRow w8I b 2 _ _ (0, 0) _ HBXI.out, setRow_heap w8I b _ _ _ (0, 0) HBXI.out]
                          rfl
                        have hz9I := hg9I.size
                        have HKwR := Lib.hid (show Keeps (fun i => i = b ∨ (vn2).ownBlock = some i) wP wR from (HSCI.out.mono (fun i hi => .inr hi)).trans (Keeps.of_grown hg9I (S := fun i => i = b ∨ (vn2).ownBlock = some i) (.inl rfl)))
                        have ho9I := HOWI.out.keep (w' := wR) (fun g hg => hg9I.block g (HOWI.out.lt hg).2 (fun e => by
                          have e' : b = g := (Option.some.inj e).symm
                          rcases HATI.out g hg with h1 | h1
                          · exact HNBI.out (e' ▸ h1)
                          · omega))
                        have h32I : ∀ x ∈ O2.map (·.n) ++ [xn], x.length = 32 := fun x hx => by
                          rcases List.mem_append.1 hx with hx | hx
                          · exact HRwP.out.n32 x hx
                          · rw [List.mem_singleton.1 hx]; exact HN32.out
                        have hoNI : Owns wR 0 31 32 (Value.slice pI (O2.length + 1) cI) (O2.map (·.n) ++ [xn]).length (pcs (O2.map (·.n) ++ [xn])) := by
                          rw [← (show O2.length + 1 = (O2.map (·.n) ++ [xn]).length by simp), ← (show pcs (O2.map (·.n)) ++ bcs xn = pcs (O2.map (·.n) ++ [xn]) by simp [pcs])]
                          exact ho9I
                        have HRwR := Lib.hid (HRwP.out.set2 HKwR.out (fun i hi => hi) hb9I hoNI HATI.out h32I)
                        have hF0I : ¬ (withOwn (withOwn (withOwn (withOwn F2 (Value.slice pV W3.length cV)) (Value.slice pZ W3.length cZ)) (Value.slice pH (O2.length + 1) cH)) (Value.slice pI (O2.length + 1) cI)) k11 := fun hf => hf.elim hF0H (fun e => (HATI.out _ e).elim (fun e2 => hF0H (HRwP.out.fn _ e2)) (fun e2 => by omega))
                        have hF1I : ¬ (withOwn (withOwn (withOwn (withOwn F2 (Value.slice pV W3.length cV)) (Value.slice pZ W3.length cZ)) (Value.slice pH (O2.length + 1) cH)) (Value.slice pI (O2.length + 1) cI)) k12 := fun hf => hf.elim hF1H (fun e => (HATI.out _ e).elim (fun e2 => hF1H (HRwP.out.fn _ e2)) (fun e2 => by omega))
                        clear hoNI
                        clear hwR hg9I hb9I ho9I
                        have HKZR := Lib.hid (show Keeps F2 wZ wR from (Keeps.of_below HB8G.out).trans ((HKwP.out.mono (T := F2) (fun j hj => hj.elim (fun e => e ▸ HRS.out.fb) (HRS.out.fo j))).trans (HKwR.out.mono (T := F2) (fun j hj => hj.elim (fun e => e ▸ HRS.out.fb) (HRS.out.fn j)))))
                        have HFR := Lib.hid (show ∀ j, (withOwn (withOwn (withOwn (withOwn F2 (Value.slice pV W3.length cV)) (Value.slice pZ W3.length cZ)) (Value.slice pH (O2.length + 1) cH)) (Value.slice pI (O2.length + 1) cI)) j → F2 j ∨ wc.heap.size ≤ j from fun j hj => by
                          rcases hj with (hj | hj) | hj
                          · exact HFZ.out j hj
                          · rcases HATH.out j hj with h | h
                            · exact .inl (HRS.out.fo j h)
                            · exact .inr (by omega)
                          · rcases HATI.out j hj with h | h
                            · exact .inl (HRS.out.fn j h)
                            · exact .inr (by omega))
                        have HC12R := Lib.hid (HC12Z.out.of_block (HKZR.out.block k12 (by omega) hN12))
                        have hk12R : k12 < wR.heap.size := by omega
                        have HOWR := Lib.hid (HOWZ.out.keep (w' := wR) (fun g hg => HKZR.out.block g (HOWZ.out.lt hg).2 (HOUT.out g hg)))
                        have HKPR := Lib.hid (HKPZ.out.trans' HKZR.out HF2.out)
                        obtain ⟨O4, hO4⟩ : ∃ O4, O4 = O2 ++ [(⟨xn, xo, xp, xc⟩ : E3)] := ⟨_, rfl⟩
                        have HSETR := Lib.hid (show RefSet wR b (Value.slice pH (O2.length + 1) cH) (Value.slice pV W3.length cV) (Value.slice pI (O2.length + 1) cI) (Value.slice pZ W3.length cZ) (withOwn (withOwn (withOwn (withOwn F2 (Value.slice pV W3.length cV)) (Value.slice pZ W3.length cZ)) (Value.slice pH (O2.length + 1) cH)) (Value.slice pI (O2.length + 1) cI)) B O4 W3 from RefRaw.set (by rw [hO4]; simpa using HRwR.out))
                        have hO4e : O4.map E3.ent = O2.map E3.ent ++ [(xn, xo)] := by rw [hO4]; simp [E3.ent]
                        have hO4a : O4.length ≤ O2.length + 1 := by rw [hO4]; simp
                        have HINV4 := Lib.hid (show DInv ⟨O4.map E3.ent, W3.map E3.ent⟩ by
                          have h1 := DInv.step (s := ⟨O2.map E3.ent, W2.map E3.ent⟩) HINV.out (i := i) (e := (xn, xo)) HXE.out HWX.out out
                          unfold putD at h1
                          rw [if_pos (show ((xn, xo) : NOp).2.depth = depthOf (O2.map E3.ent) ((xn, xo) : NOp).2 from HDEP2.out)] at h1
                          rw [HW3E.out, hO4e]
                          exact h1)
                        have HDR4 := Lib.hid (show drain W.length ⟨O1.map E3.ent, W.map E3.ent⟩ [nm] = drain W3.length ⟨O4.map E3.ent, W3.map E3.ent⟩ (out ++ [xn]) by
                          have h2 := HDRG.out
                          unfold putD at h2
                          rw [if_pos (show ((xn, xo) : NOp).2.depth = depthOf (O2.map E3.ent) ((xn, xo) : NOp).2 from HDEP2.out), ← HW3E.out] at h2
                          simp only [List.length_map] at h2
                          rw [HDR.out, h2, hO4e])
                        have HOWL := Lib.hid (show ∀ g, (u7 : Value).ownBlock = some g → w.heap.size ≤ g ∧ g < wR.heap.size from fun g hg => HOWR.out.lt hg)
                        have HOUTR := Lib.hid (show ∀ g, (u7 : Value).ownBlock = some g → ¬ (withOwn (withOwn (withOwn (withOwn F2 (Value.slice pV W3.length cV)) (Value.slice pZ W3.length cZ)) (Value.slice pH (O2.length + 1) cH)) (Value.slice pI (O2.length + 1) cI)) g from fun g hg hf => by
                          rcases HFR.out g hf with h | h
                          · exact HOUT.out g hg h
                          · have := (HOW.out.lt hg).2; omega)
                        have HFR2 := Lib.hid (show ∀ j, (withOwn (withOwn (withOwn (withOwn F2 (Value.slice pV W3.length cV)) (Value.slice pZ W3.length cZ)) (Value.slice pH (O2.length + 1) cH)) (Value.slice pI (O2.length + 1) cI)) j → F j ∨ w.heap.size ≤ j from fun j hj => by
                          rcases HFR.out j hj with h | h
                          · exact HF2.out j h
                          · exact .inr (by omega))
                        have hwR : w.heap.size ≤ wR.heap.size := by omega
                        clear hO4 hO4e
                        go_wp2_with (first
                          | (refine wpList_loadAgg _ rfl 31 _ rfl _ Tryz.underlying31 rfl k12 0 (by rfl) (bcs xn) (by rw [HI.out, bcs_length, HN32.out]) HC12R.out ?_)
                          | (refine wpList_buildOne _ rfl 28 _ rfl 31 32 _ Tryz.underlying28 HI.out (by omega) (by omega) HZ.out (bcs xn).toArray (by rfl) (by rw [List.size_toArray, bcs_length, HN32.out]) ?_)
                          | (at_builtin; refine wpList_append_G rfl _ _ 28 rfl w.heap.size 31 i0 _ 32 32 Tryz.underlying28 hi hz0 hz1 hz2 (by rfl) (by omega) u7 out.length (pcs out) (by rfl) (HOWR.out.alloc _) (some ⟨wR.heap.size, 0, none⟩) 1 1 (bcs xn) (by rfl) (by rw [bcs_length, HN32.out]) (src_new wR (bcs xn) 31) (fun a e => by cases e; rfl) (bcs_one xn) (by unfold maxLen; omega) (by omega) (by rw [World.size_alloc]; omega) ?_; intro v18 w18 hown18 hg18 hs18))
                        rw [show pcs out ++ bcs xn = pcs (out ++ [xn]) by simp [pcs], show out.length + 1 = (out ++ [xn]).length by simp] at hown18
                        have hz18 := hg18.size
                        rw [World.size_alloc] at hz18 hs18
                        have hg18' : ∀ j, j < wR.heap.size → (u7 : Value).ownBlock ≠ some j → w18.heap[j]? = wR.heap[j]? := fun j hj hne => (hg18.block j (by rw [World.size_alloc]; omega) (fun e => hne e.symm)).trans ((MapKept.heap_alloc _ _).2 _ hj)
                        have HSET18 := Lib.hid (RefRaw.set (HSETR.out.raw.keeps (w' := w18) (by omega) (fun j hj hFB => hg18' j hj (fun e => hFB.elim (HOUTR.out j e) (fun hB => by
                          have h1 := (HOWL.out j e).1
                          have h2 := HH.out.blt j hB
                          omega)))))
                        have HKP18 := Lib.hid (HKPR.out.trans' (⟨hg18.os, hg18.tape, hg18.output, by omega, fun j hj hs => hg18' j hj (fun e => hs e)⟩ : Keeps (fun j => (u7 : Value).ownBlock = some j) wR w18) (fun j hj => .inr (HOWL.out j hj).1))
                        have HOUT18 := Lib.hid (show ∀ g, (v18 : Value).ownBlock = some g → ¬ (withOwn (withOwn (withOwn (withOwn F2 (Value.slice pV W3.length cV)) (Value.slice pZ W3.length cZ)) (Value.slice pH (O2.length + 1) cH)) (Value.slice pI (O2.length + 1) cI)) g from fun g hg hf => by
                          rcases hs18 with h | h
                          · exact HOUTR.out g (h ▸ hg) hf
                          · have h1 := HSETR.out.flt g hf
                            rw [h] at hg
                            have h2 := Option.some.inj hg
                            omega)
                        have HOW18 := Lib.hid hown18
                        have hsumf : O4.length + W3.length ≤ 901 := by omega
                        have holf : (out ++ [xn]).length + W3.length ≤ 901 := by simp; omega
                        obtain ⟨out4, hout4⟩ : ∃ l, l = out ++ [xn] := ⟨_, rfl⟩
                        rw [← hout4] at HDR4 HOW18 holf
                        have HWL18 := Lib.hid (show waitLen w18 b = W3.length from waitLen_eq HSET18.out.c1)
                        clear hown18 hg18 hs18 hg18' hout4
                        go_roundw
                        case rel => exact ⟨_, _, _, _, _, O4, W3, out4, HSET18, HINV4, HOW18, HOUT18, HDR4, HKP18, HFR2, hsumf, holf⟩
                        case measure =>
                          have h1 := HWL.out
                          have h2 := HWL18.out
                          omega
                      · have hdb : (xo.depth == DDG) = false := by simp [hdep2]
                        have HDEP2 := Lib.hid (show ¬ xo.depth = depthOf (O2.map E3.ent) xo by rw [← HDDG.out]; exact hdep2)
                        have HSETG := Lib.hid (HSETZ.out.under HB8G.out)
                        have HOWG := Lib.hid (HOWZ.out.under HB8G.out)
                        have HKPG := Lib.hid (HKPZ.out.trans (Keeps.of_below HB8G.out))
                        have HINVG := Lib.hid (show DInv ⟨O2.map E3.ent, W3.map E3.ent⟩ by rw [HW3E.out]; exact HINS.out.1)
                        have HDR4 := Lib.hid (show drain W.length ⟨O1.map E3.ent, W.map E3.ent⟩ [nm] = drain W3.length ⟨O2.map E3.ent, W3.map E3.ent⟩ out by
                          have h2 := HDRG.out
                          unfold putD at h2
                          rw [if_neg (show ¬ ((xn, xo) : NOp).2.depth = depthOf (O2.map E3.ent) ((xn, xo) : NOp).2 from HDEP2.out), ← HW3E.out] at h2
                          simp only [List.length_map] at h2
                          rw [HDR.out, h2])
                        have HFZ2 := Lib.hid (show ∀ j, (withOwn (withOwn F2 (Value.slice pV W3.length cV)) (Value.slice pZ W3.length cZ)) j → F j ∨ w.heap.size ≤ j from fun j hj => by
                          rcases HFZ.out j hj with h | h
                          · exact HF2.out j h
                          · exact .inr (by omega))
                        have HWLG := Lib.hid (show waitLen w8G b = W3.length from waitLen_eq HSETG.out.c1)
                        go_wp2
                        refine NoPanic.normal ?_
                        go_wp2
                        go_roundw
                        case rel => exact ⟨_, _, _, _, _, O2, W3, out, HSETG, HINVG, HOWG, HOUTZ, HDR4, HKPG, HFZ2, by omega, by omega⟩
                        case measure =>
                          have h1 := HWL.out
                          have h2 := HWLG.out
                          omega
          · have hdb : (o.depth != DDE) = true := by simp [hdep]
            have HTK := Lib.hid (show takeD ⟨O.map E3.ent, W.map E3.ent⟩ o = (⟨O.map E3.ent, W.map E3.ent⟩, [], 10) by
              unfold takeD
              rw [if_pos hg, ← HNMX.out]
              simp only
              rw [HNO.out, ← HBWX.out, ← HWHX.out, if_neg (by simp), if_neg (by simp), if_neg (by rw [← HDDE.out]; exact hdep)])
            have hfin : ∃ v vo' vw' vn' vm' F' O' W', Ending.returned (.tuple #[.slice none 0 0, .int .i64 10]) = .returned (.tuple #[v, .int .i64 (takeD ⟨O.map E3.ent, W.map E3.ent⟩ o).2.2]) ∧
                O'.map E3.ent = (takeD ⟨O.map E3.ent, W.map E3.ent⟩ o).1.ops ∧ W'.map E3.ent = (takeD ⟨O.map E3.ent, W.map E3.ent⟩ o).1.wait ∧
                RefSet w8E b vo' vw' vn' vm' F' B O' W' ∧ (∀ i, F' i → F i ∨ w.heap.size ≤ i) ∧ Owns w8E w.heap.size 31 32 v (takeD ⟨O.map E3.ent, W.map E3.ent⟩ o).2.1.length (pcs (takeD ⟨O.map E3.ent, W.map E3.ent⟩ o).2.1) ∧ Keeps F w w8E := by
              rw [HTK.out]
              exact ⟨_, vo, vw, vn, vm, F, O, W, rfl, rfl, rfl, HH.out.under HBw8.out, fun i hi => .inl hi, Owns.nil _ _ _ _, Keeps.of_below HBw8.out⟩
            have HFIN := Lib.hid hfin
            clear hfin
            go_wp2
            refine NoPanic.normal ?_
            go_wp2
            refine bodyPost_ret (results_tmp2 rfl _ _ _) rfl ?_
            obtain ⟨v, a1, a2, a3, a4, a5, a6, a7, h1, h2, h3, h4, h5, h6, h7⟩ := HFIN.out
            first | exact HFIN.out | exact ⟨v, h1, a1, a2, a3, a4, a5, a6, h2, a7, h3, h4, h5, h6, h7⟩
  · have hgb : decide o.Good = false := by simpa using hg
    have HTK := Lib.hid (show takeD ⟨O.map E3.ent, W.map E3.ent⟩ o = (⟨O.map E3.ent, W.map E3.ent⟩, [], 1) by
      unfold takeD
      rw [if_neg hg])
    go_wp2_with (first
      | (refine wpList_loadAgg _ rfl 46 _ rfl _ Tryz.underlying46 rfl w.heap.size 0 (by rfl) (o.cs p c) (by rw [opInfo, HC.out]) HAC1.out ?_)
      | (go_at_call 65; refine (ropgood_any o HD.out p c w1 (HS.out.below HBw1.out (Nat.le_refl _))).mono ?_; rintro e w2 ⟨rfl, hb2⟩))
    have hb := HBw1.out.trans (hb2.mono (by omega))
    have hfin : ∃ v vo' vw' vn' vm' F' O' W', Ending.returned (.tuple #[.slice none 0 0, .int .i64 1]) = .returned (.tuple #[v, .int .i64 (takeD ⟨O.map E3.ent, W.map E3.ent⟩ o).2.2]) ∧
        O'.map E3.ent = (takeD ⟨O.map E3.ent, W.map E3.ent⟩ o).1.ops ∧ W'.map E3.ent = (takeD ⟨O.map E3.ent, W.map E3.ent⟩ o).1.wait ∧
        RefSet w2 b vo' vw' vn' vm' F' B O' W' ∧ (∀ i, F' i → F i ∨ w.heap.size ≤ i) ∧ Owns w2 w.heap.size 31 32 v (takeD ⟨O.map E3.ent, W.map E3.ent⟩ o).2.1.length (pcs (takeD ⟨O.map E3.ent, W.map E3.ent⟩ o).2.1) ∧ Keeps F w w2 := by
      rw [HTK.out]
      exact ⟨_, vo, vw, vn, vm, F, O, W, rfl, rfl, rfl, HH.out.under hb, fun i hi => .inl hi, Owns.nil _ _ _ _, Keeps.of_below hb⟩
    have HFIN := Lib.hid hfin
    clear hfin
    refine bodyPost_ret (results_tmp2 rfl _ _ _) rfl ?_
    obtain ⟨v, a1, a2, a3, a4, a5, a6, a7, h1, h2, h3, h4, h5, h6, h7⟩ := HFIN.out
    first | exact HFIN.out | exact ⟨v, h1, a1, a2, a3, a4, a5, a6, h2, a7, h3, h4, h5, h6, h7⟩
end Go.Proofs.YtfoifdhcelcgiaaGreatDoor
