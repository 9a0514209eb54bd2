/-
  What comes to a set.
-/
import Derived.Test.YtfoifdhcelcgiaaGreatDoorJg
namespace Go.Proofs.YtfoifdhcelcgiaaGreatDoor
open Go Go.RowKit

theorem Tabs.keeps {S : Nat → Prop} {w w' : World} (h : Tabs w) (hk : Keeps S w w') (hs : ∀ i, i < 3 → ¬ S i) : Tabs w' := h.of_below (hk.toBelow h.2.2 hs) (Nat.le_refl _)
def mapSize (w : World) (b : Nat) : Nat := match w.heap[b]? with | some (.map es _) => es.size | _ => 0
theorem hasMap.size_eq {P : Program} {k : TypeId} {w : World} {b : Nat} {L : List (Value × Value)} (h : hasMap P k w b L) : mapSize w b = L.length := by
  obtain ⟨es, ck, h1, _, _, h4⟩ := h
  unfold mapSize
  rw [h1]
  simpa using h4.length_eq
theorem behind_le {O : List E3} (h : ∀ e ∈ O, e.o.preds.length ≤ 1048576) (m : Nm) : behindN (O.map E3.ent) m ≤ O.length * 1048576 := by
  refine Nat.le_trans List.count_le_length ?_
  induction O with
  | nil => simp
  | cons a r ih =>
    have h1 := h a (by simp)
    have h2 := ih (fun e he => h e (by simp [he]))
    simp only [List.map_cons, List.flatMap_cons, List.length_append, List.length_cons]
    simp only [E3.ent] at h2 ⊢
    omega

theorem DagSet.monoB {w : World} {b mo mw mt : Nat} {B B' : Nat → Prop} {O W : List E3} {T : List (Nm × Nat)} (h : DagSet w b mo mw mt B O W T) (hB : ∀ i, B i → B' i) : DagSet w b mo mw mt B' O W T :=
  ⟨h.box, h.ops, h.wait, h.out, fun e he => (h.okO e he).mono hB, fun e he => (h.okW e he).mono hB, h.okT, h.cnt, ⟨hB _ h.inB.1, hB _ h.inB.2.1, hB _ h.inB.2.2.1, hB _ h.inB.2.2.2⟩, h.ne, h.rows⟩
/-- what waits is another, nothing else -/
theorem DagSet.setW {w w' : World} {b mo mw mt : Nat} {B B' : Nat → Prop} {O W W' : List E3} {T : List (Nm × Nat)} (h : DagSet w b mo mw mt B O W T) (hg : w.grownBy w' (some mw)) (hB : ∀ i, B i → B' i) (hm : hasMap Tryz.prog 31 w' mw (W'.map E3.kv))
    (hok : ∀ e ∈ W', e ∈ W ∨ (e.Ok w B' ∧ ∀ i off, e.p = some ⟨i, off, none⟩ → i ≠ b ∧ i ≠ mo ∧ i ≠ mw ∧ i ≠ mt)) : DagSet w' b mo mw mt B' O W' T := by
  have hk : Keeps (oneB mw) w w' := Keeps.of_grown hg rfl
  have hne : ∀ e ∈ O ++ W, ∀ i off, e.p = some ⟨i, off, none⟩ → ¬ oneB mw i := fun e he i off e1 e2 => (h.rows e he i off e1).2.2.1 e2
  refine ⟨(hk.block b h.lt (h.wait.box_ne h.box)).trans h.box, h.ops.of_block (hk.block _ h.ops.lt (fun e => h.ne.1 e)), hm, h.out.of_block (hk.block _ h.out.lt (fun e => h.ne.2.2 e.symm)), ?_, ?_, h.okT, h.cnt, ⟨hB _ h.inB.1, hB _ h.inB.2.1, hB _ h.inB.2.2.1, hB _ h.inB.2.2.2⟩, h.ne, ?_⟩
  · exact fun e he => ((h.okO e he).ok' hk (fun i off e1 _ => hne e (List.mem_append.2 (.inl he)) i off e1)).mono hB
  · intro e he
    rcases hok e he with h1 | ⟨h1, h2⟩
    · exact ((h.okW e h1).ok' hk (fun i off e1 _ => hne e (List.mem_append.2 (.inr h1)) i off e1)).mono hB
    · exact h1.ok' hk (fun i off e1 _ e2 => (h2 i off e1).2.2.1 e2)
  · intro e he i off e1
    rcases List.mem_append.1 he with he | he
    · exact h.rows e (List.mem_append.2 (.inl he)) i off e1
    · rcases hok e he with h1 | ⟨_, h2⟩
      · exact h.rows e (List.mem_append.2 (.inr h1)) i off e1
      · exact h2 i off e1
theorem restAt_erase {W : List E3} {i : Nat} {x : E3} (hx : W[i]? = some x) : restAt (W.map E3.kv) (idv x.n) ((W.eraseIdx i).map E3.kv) := by
  refine .inl ⟨.agg x.cs.toArray, ?_⟩
  have : W.Perm (x :: W.eraseIdx i) := by
    induction W generalizing i with
    | nil => simp at hx
    | cons a r ih =>
      cases i with
      | zero => simp at hx; subst hx; simp
      | succ i =>
        simp at hx
        simp only [List.eraseIdx_cons_succ]
        exact ((ih hx).cons a).trans (List.Perm.swap _ _ _)
  exact this.map E3.kv
theorem notin_names {O : List E3} {n : Nm} (h : hasN (O.map E3.ent) n = false) : n ∉ O.map (·.n) := by
  have := hasN_false.1 h
  rwa [show namesOf (O.map E3.ent) = O.map (·.n) by simp [namesOf, E3.ent]] at this
def withRow (B : Nat → Prop) (p : Option Addr) : Nat → Prop := fun i => B i ∨ ∃ off, p = some ⟨i, off, none⟩

set_option maxRecDepth 100000 in
set_option maxHeartbeats 40000000 in
theorem take_any (b mo mw mt : Nat) (B : Nat → Prop) (O W : List E3) (T : List (Nm × Nat)) (o : OpV) (ho : o.Ok) (p : Option Addr) (c : Nat) (w : World) (hT : Tabs w) (h : DagSet w b mo mw mt B O W T) (hI : DInv ⟨O.map E3.ent, W.map E3.ent⟩) (hs : Src w p (pcs o.preds)) (hN : O.length + W.length ≤ 900) (hBlt : ∀ i, B i → i < w.heap.size) :
    Calls Tryz.prog 33 #[.pointer (some ⟨b, 0, none⟩), .agg (o.cs p c).toArray] w fun e w' => ∃ v B' O' W' T', e = .returned (.tuple #[v, .int .i64 (takeD ⟨O.map E3.ent, W.map E3.ent⟩ o).2.2]) ∧
      O'.map E3.ent = (takeD ⟨O.map E3.ent, W.map E3.ent⟩ o).1.ops ∧ W'.map E3.ent = (takeD ⟨O.map E3.ent, W.map E3.ent⟩ o).1.wait ∧
      DagSet w' b mo mw mt B' O' W' T' ∧ (∀ i, B' i → (B i ∨ w.heap.size ≤ i) ∧ i < w'.heap.size) ∧ Owns w' w.heap.size 31 32 v (takeD ⟨O.map E3.ent, W.map E3.ent⟩ o).2.1.length (pcs (takeD ⟨O.map E3.ent, W.map E3.ent⟩ o).2.1) ∧ Keeps (threeB mo mw mt) w w' := by
  obtain ⟨i0, hi, hz0, hz1, hz2⟩ := info_parts idInfo3
  obtain ⟨hz, hid⟩ := info_two idInfo
  obtain ⟨hzo, hio⟩ := info_two opZero
  have HZ := Lib.hid hz
  have HI := Lib.hid hid
  have HZO := Lib.hid hzo
  have HD := Lib.hid ho
  have HS := Lib.hid hs
  have HT := Lib.hid hT
  have HH := Lib.hid h
  have HIN := Lib.hid hI
  have HC := Lib.hid (OpV.cs_length ho p c)
  have hlen := ho.len
  have HBL := Lib.hid hBlt
  have HNE := Lib.hid h.ne
  have hblt := h.lt
  have hmo := h.ops.lt
  have hmw := h.wait.lt
  have hmt := h.out.lt
  obtain ⟨w1, hw1⟩ : ∃ w1, w1 = w.alloc (.cells (o.cs p c).toArray 46) := ⟨_, rfl⟩
  have hb1 : Below w.heap.size w w1 := by rw [hw1]; exact (Below.refl _ w).alloc (Nat.le_refl _) _
  have hat : cellsAt w1 w.heap.size 0 (o.cs p c) := by rw [hw1]; simpa using cellsAt_new w (o.cs p c).toArray 46
  have hz1' : w.heap.size < w1.heap.size := by rw [hw1]; simp
  have HAC1 := Lib.hid hat
  have HBw1 := Lib.hid hb1
  clear ho hs h hI hT hat hb1 hz hid hzo hio hBlt
  go_enter Tryz.func33, Tryz.ntmps33
  go_upto_region 3 with (first | (refine wpList_boxAgg _ rfl 46 _ rfl (o.cs p c).toArray (by rfl) ?_))
  rw [← hw1]
  clear hw1
  by_cases hg : o.Good
  · have hgb : decide o.Good = true := by simpa using hg
    go_upto_region 5 with (first
      | (refine wpList_loadAgg _ rfl 46 _ rfl _ Tryz.underlying46 rfl w.heap.size 0 (by rfl) (o.cs p c) (by rw [opInfo, HC.out]) HAC1.out ?_)
      | (go_at_call 57; refine (opgood_any o HD.out p c w1 (HS.out.below HBw1.out (Nat.le_refl _))).mono ?_; rintro e w2 ⟨rfl, hb2⟩))
    clear hgb
    have HBw2 := Lib.hid (HBw1.out.trans (hb2.mono (by omega)))
    have HAC2 := Lib.hid (HAC1.out.of_block (hb2.block _ (by omega)))
    have hz2w := hb2.size
    clear hb2
    obtain ⟨nm, hnm⟩ : ∃ nm, nm = nameB o := ⟨_, rfl⟩
    have hcall := opname_any o HD.out p c w2 (HT.out.of_below HBw2.out HT.out.2.2) (HS.out.below HBw2.out (Nat.le_refl _))
    rw [← hnm] at hcall
    have HCALL := Lib.hid hcall
    have HNM := Lib.hid (show nm.length = 32 by rw [hnm]; rfl)
    have HNMX := Lib.hid hnm
    have HZX := Lib.hid (show (fillB [] 32).size = (bcs nm).toArray.size by rw [show (bcs nm).toArray.size = (bcs nm).length from rfl, bcs_length, HNM.out]; rfl)
    clear hcall hnm
    go_upto_region 6 with (first
      | (refine wpList_loadAgg _ rfl 46 _ rfl _ Tryz.underlying46 rfl w.heap.size 0 (by rfl) (o.cs p c) (by rw [opInfo, HC.out]) HAC2.out ?_)
      | (go_at_call 53; refine HCALL.out.mono ?_; rintro e w3 ⟨rfl, hb3⟩)
      | (refine wpList_allocZ _ rfl 31 rfl _ HZ.out ?_)
      | (refine wpList_storeNew _ w3 rfl 31 _ _ rfl (fillB [] 32) rfl (by rfl) (bcs nm).toArray (by rfl) (by rw [HI.out, List.size_toArray, bcs_length, HNM.out]) HZX.out (by simpa using bcs_one nm) ?_))
    obtain ⟨w4, hw4⟩ : ∃ w4, w4 = w3.alloc (.cells (bcs nm).toArray 31) := ⟨_, rfl⟩
    rw [← hw4]
    have hb34 : Below w3.heap.size w3 w4 := by rw [hw4]; exact (Below.refl _ w3).alloc (Nat.le_refl _) _
    have HNCw4 := Lib.hid (show cellsAt w4 w3.heap.size 0 (bcs nm) by rw [hw4]; simpa using cellsAt_new w3 (bcs nm).toArray 31)
    have hz4w : w3.heap.size < w4.heap.size := by rw [hw4]; simp
    have hz3w := hb3.size
    have HBw4 := Lib.hid (HBw2.out.trans ((hb3.trans (hb34.mono (by omega))).mono (by omega)))
    have HACw4 := Lib.hid (HAC2.out.of_block ((hb34.block _ (by omega)).trans (hb3.block _ (by omega))))
    have HHw4 := Lib.hid (HH.out.under HBw4.out)
    clear hw4 hb34 hb3
    go_upto_region 6 with fail
    obtain ⟨N4, hN4a, hN4b⟩ : ∃ n, w4.heap.size ≤ n ∧ n ≤ w4.heap.size := ⟨_, Nat.le_refl _, Nat.le_refl _⟩
    obtain ⟨V6, hV6⟩ : ∃ V, V = valAt O nm := ⟨_, rfl⟩
    obtain ⟨b6x, hb6x⟩ : ∃ bx, bx = hasN (O.map E3.ent) nm := ⟨_, rfl⟩
    have HBb6x := Lib.hid hb6x
    refine wp_region_noPanic ?_
    refine wp_region_till 11 (fun w' => Below N4 w4 w') (by kernel_rfl) (by kernel_rfl) ?_
    obtain ⟨wA6, hwA6⟩ : ∃ wA6, wA6 = w4.drew := ⟨_, rfl⟩
    have hSwA6 : Below N4 w4 wA6 := by rw [hwA6]; exact (Below.refl N4 w4).drew
    rw [← hwA6]
    have HS6 := Lib.hid hSwA6
    have hzwA6 : wA6.heap.size = w4.heap.size := by rw [hwA6]; rfl
    clear hwA6 hSwA6
    go_simp
    have HLK6 := Lib.hid (show ∀ w', Below N4 w4 w' → (Instr.lookup 78 (.map (some mo)) (idv nm) true).run Tryz.prog w' = .ok (.tuple #[.agg V6.toArray, .bool b6x]) w' from fun w' hw' => by
      rw [hb6x, hV6]
      exact (HHw4.out.below hw' hN4a).ops.look3 HNM.out true)
    have HV6 := Lib.hid (show V6.length = 38 by rw [hV6]; exact valAt_length HHw4.out.okO nm)
    have HV6o := Lib.hid (show ∀ u ∈ V6, u.oneCell' = true by rw [hV6]; exact valAt_one O nm)
    have HV6s := Lib.hid (show 38 = V6.toArray.size by rw [List.size_toArray, HV6.out])
    clear hV6 hb6x
    refine Till.pure 0 rfl rfl (by kernel_rfl) (NoPanic.noFrame _) HS6.out ?_
    go_big_quiet_step (fail)
    refine wpQuiet_nil ?_
    refine Till.pure 1 rfl rfl (by kernel_rfl) (NoPanic.noFrame _) HS6.out ?_
    go_big_quiet_step (fail)
    refine wpQuiet_nil ?_
    refine Till.pure 2 rfl rfl (by kernel_rfl) (NoPanic.noFrame _) HS6.out ?_
    go_big_quiet_step (fail)
    refine wpQuiet_nil ?_
    refine Till.load 3 78 _ ⟨b, 0, none⟩ (.map (some mo)) rfl rfl rfl rfl (by kernel_rfl) (NoPanic.noFrame _) HS6.out (fun w' hw' => run_loadVar_one Tryz.underlying78 rfl (HHw4.out.below hw' hN4a).c0) ?_
    go_simp
    refine Till.load 4 31 _ ⟨w3.heap.size, 0, none⟩ (idv nm) rfl rfl rfl rfl (by kernel_rfl) (NoPanic.noFrame _) HS6.out (fun w' hw' => run_loadAgg Tryz.underlying31 rfl (by rw [HI.out, bcs_length, HNM.out]) (HNCw4.out.of_block (hw'.block _ (by omega)))) ?_
    go_simp
    refine Till.look 5 78 _ _ true (.map (some mo)) (idv nm) _ rfl rfl rfl (by rfl) (by rfl) (by kernel_rfl) (NoPanic.noFrame _) HS6.out HLK6.out ?_
    go_simp
    refine Till.pure 6 rfl rfl (by kernel_rfl) (NoPanic.noFrame _) HS6.out ?_
    go_big_quiet_step (fail)
    refine wpQuiet_nil ?_
    refine Till.pure 7 rfl rfl (by kernel_rfl) (NoPanic.noFrame _) HS6.out ?_
    go_big_quiet_step (fail)
    refine wpQuiet_nil ?_
    refine Till.pure 8 rfl rfl (by kernel_rfl) (NoPanic.noFrame _) HS6.out ?_
    go_big_quiet_step (fail)
    refine wpQuiet_nil ?_
    refine Till.act 9 rfl rfl (by kernel_rfl) rfl ?_
    intro K hK
    refine wp_allocZ _ 46 rfl _ HZO.out ?_
    refine hK _ _ (HS6.out.alloc (by omega) _) ?_
    clear hK K
    refine Till.act 10 rfl rfl (by kernel_rfl) rfl ?_
    intro K hK
    refine wp_storeNew _ wA6 46 _ _ rfl _ rfl (by rfl) V6.toArray (by rfl) (by rw [opInfo, List.size_toArray, HV6.out]) HV6s.out (by simpa using HV6o.out) ?_
    refine hK _ _ (HS6.out.alloc (by omega) _) ?_
    clear hK K
    refine Till.tail _ rfl rfl (by kernel_rfl) (by kernel_rfl) ?_
    obtain ⟨w5, hw5⟩ : ∃ w, w = wA6.alloc (.cells V6.toArray 46) := ⟨_, rfl⟩
    have hbw5 : Below w4.heap.size w4 w5 := by rw [hw5]; exact (HS6.out.mono hN4a).alloc (by omega) _
    rw [← hw5]
    have HHw5 := Lib.hid (HHw4.out.under hbw5)
    have HNCw5 := Lib.hid (HNCw4.out.of_block (hbw5.block _ (by omega)))
    have HACw5 := Lib.hid (HACw4.out.of_block (hbw5.block _ (by omega)))
    have HBw5 := Lib.hid (HBw4.out.trans (hbw5.mono (by omega)))
    have hzw5 := hbw5.size
    clear hw5 hbw5
    go_wp2
    refine NoPanic.normal ?_
    go_upto_region 7 with fail
    obtain ⟨N5, hN5a, hN5b⟩ : ∃ n, w5.heap.size ≤ n ∧ n ≤ w5.heap.size := ⟨_, Nat.le_refl _, Nat.le_refl _⟩
    obtain ⟨V7, hV7⟩ : ∃ V, V = valAt W nm := ⟨_, rfl⟩
    obtain ⟨b7x, hb7x⟩ : ∃ bx, bx = hasN (W.map E3.ent) nm := ⟨_, rfl⟩
    have HBb7x := Lib.hid hb7x
    refine wp_region_noPanic ?_
    refine wp_region_till 11 (fun w' => Below N5 w5 w') (by kernel_rfl) (by kernel_rfl) ?_
    obtain ⟨wA7, hwA7⟩ : ∃ wA7, wA7 = w5.drew := ⟨_, rfl⟩
    have hSwA7 : Below N5 w5 wA7 := by rw [hwA7]; exact (Below.refl N5 w5).drew
    rw [← hwA7]
    have HS7 := Lib.hid hSwA7
    have hzwA7 : wA7.heap.size = w5.heap.size := by rw [hwA7]; rfl
    clear hwA7 hSwA7
    go_simp
    have HLK7 := Lib.hid (show ∀ w', Below N5 w5 w' → (Instr.lookup 78 (.map (some mw)) (idv nm) true).run Tryz.prog w' = .ok (.tuple #[.agg V7.toArray, .bool b7x]) w' from fun w' hw' => by
      rw [hb7x, hV7]
      exact (HHw5.out.below hw' hN5a).wait.look3 HNM.out true)
    have HV7 := Lib.hid (show V7.length = 38 by rw [hV7]; exact valAt_length HHw5.out.okW nm)
    have HV7o := Lib.hid (show ∀ u ∈ V7, u.oneCell' = true by rw [hV7]; exact valAt_one W nm)
    have HV7s := Lib.hid (show 38 = V7.toArray.size by rw [List.size_toArray, HV7.out])
    clear hV7 hb7x
    refine Till.pure 0 rfl rfl (by kernel_rfl) (NoPanic.noFrame _) HS7.out ?_
    go_big_quiet_step (fail)
    refine wpQuiet_nil ?_
    refine Till.pure 1 rfl rfl (by kernel_rfl) (NoPanic.noFrame _) HS7.out ?_
    go_big_quiet_step (fail)
    refine wpQuiet_nil ?_
    refine Till.pure 2 rfl rfl (by kernel_rfl) (NoPanic.noFrame _) HS7.out ?_
    go_big_quiet_step (fail)
    refine wpQuiet_nil ?_
    refine Till.load 3 78 _ ⟨b, 1, none⟩ (.map (some mw)) rfl rfl rfl rfl (by kernel_rfl) (NoPanic.noFrame _) HS7.out (fun w' hw' => run_loadVar_one Tryz.underlying78 rfl (HHw5.out.below hw' hN5a).c1) ?_
    go_simp
    refine Till.load 4 31 _ ⟨w3.heap.size, 0, none⟩ (idv nm) rfl rfl rfl rfl (by kernel_rfl) (NoPanic.noFrame _) HS7.out (fun w' hw' => run_loadAgg Tryz.underlying31 rfl (by rw [HI.out, bcs_length, HNM.out]) (HNCw5.out.of_block (hw'.block _ (by omega)))) ?_
    go_simp
    refine Till.look 5 78 _ _ true (.map (some mw)) (idv nm) _ rfl rfl rfl (by rfl) (by rfl) (by kernel_rfl) (NoPanic.noFrame _) HS7.out HLK7.out ?_
    go_simp
    refine Till.pure 6 rfl rfl (by kernel_rfl) (NoPanic.noFrame _) HS7.out ?_
    go_big_quiet_step (fail)
    refine wpQuiet_nil ?_
    refine Till.pure 7 rfl rfl (by kernel_rfl) (NoPanic.noFrame _) HS7.out ?_
    go_big_quiet_step (fail)
    refine wpQuiet_nil ?_
    refine Till.pure 8 rfl rfl (by kernel_rfl) (NoPanic.noFrame _) HS7.out ?_
    go_big_quiet_step (fail)
    refine wpQuiet_nil ?_
    refine Till.act 9 rfl rfl (by kernel_rfl) rfl ?_
    intro K hK
    refine wp_allocZ _ 46 rfl _ HZO.out ?_
    refine hK _ _ (HS7.out.alloc (by omega) _) ?_
    clear hK K
    refine Till.act 10 rfl rfl (by kernel_rfl) rfl ?_
    intro K hK
    refine wp_storeNew _ wA7 46 _ _ rfl _ rfl (by rfl) V7.toArray (by rfl) (by rw [opInfo, List.size_toArray, HV7.out]) HV7s.out (by simpa using HV7o.out) ?_
    refine hK _ _ (HS7.out.alloc (by omega) _) ?_
    clear hK K
    refine Till.tail _ rfl rfl (by kernel_rfl) (by kernel_rfl) ?_
    obtain ⟨w6, hw6⟩ : ∃ w, w = wA7.alloc (.cells V7.toArray 46) := ⟨_, rfl⟩
    have hbw6 : Below w5.heap.size w5 w6 := by rw [hw6]; exact (HS7.out.mono hN5a).alloc (by omega) _
    rw [← hw6]
    have HHw6 := Lib.hid (HHw5.out.under hbw6)
    have HNCw6 := Lib.hid (HNCw5.out.of_block (hbw6.block _ (by omega)))
    have HACw6 := Lib.hid (HACw5.out.of_block (hbw6.block _ (by omega)))
    have HBw6 := Lib.hid (HBw5.out.trans (hbw6.mono (by omega)))
    have hzw6 := hbw6.size
    clear hw6 hbw6
    go_wp2
    refine NoPanic.normal ?_
    by_cases htw : (b6x || b7x) = true
    · have HTK := Lib.hid (show takeD ⟨O.map E3.ent, W.map E3.ent⟩ o = (⟨O.map E3.ent, W.map E3.ent⟩, [], 9) by
        unfold takeD
        rw [if_pos hg, ← HNMX.out, ← HBb6x.out, ← HBb7x.out, if_pos htw])
      have hfin : ∃ v B' O' W' T', Ending.returned (.tuple #[.slice none 0 0, .int .i64 9]) = .returned (.tuple #[v, .int .i64 (takeD ⟨O.map E3.ent, W.map E3.ent⟩ o).2.2]) ∧
          O'.map E3.ent = (takeD ⟨O.map E3.ent, W.map E3.ent⟩ o).1.ops ∧ W'.map E3.ent = (takeD ⟨O.map E3.ent, W.map E3.ent⟩ o).1.wait ∧
          DagSet w6 b mo mw mt B' O' W' T' ∧ (∀ i, B' i → (B i ∨ w.heap.size ≤ i) ∧ i < w6.heap.size) ∧ Owns w6 w.heap.size 31 32 v (takeD ⟨O.map E3.ent, W.map E3.ent⟩ o).2.1.length (pcs (takeD ⟨O.map E3.ent, W.map E3.ent⟩ o).2.1) ∧ Keeps (threeB mo mw mt) w w6 := by
        rw [HTK.out]
        exact ⟨_, B, O, W, T, rfl, rfl, rfl, HHw6.out, fun i hi => ⟨.inl hi, by have := HBL.out i hi; omega⟩, Owns.nil _ _ _ _, Keeps.of_below HBw6.out⟩
      have HFIN := Lib.hid hfin
      clear hfin
      cases b6x with
      | true =>
        go_wp2
        refine bodyPost_ret (results_tmp2 rfl _ _ _) rfl ?_
        exact HFIN.out
      | false =>
        cases b7x with
        | true =>
          go_wp2
          refine bodyPost_ret (results_tmp2 rfl _ _ _) rfl ?_
          exact HFIN.out
        | false => simp at htw
    · obtain ⟨rfl, rfl⟩ : b6x = false ∧ b7x = false := by simpa using htw
      clear htw
      go_upto_region 10 with fail
      obtain ⟨LN, hLN⟩ : ∃ LN, LN = (o.preds.filter fun n => !hasN (O.map E3.ent) n).length := ⟨_, rfl⟩
      have hcl := lacks_any b mo mw mt B O W T o HD.out p c w6 HHw6.out (HS.out.below HBw6.out (Nat.le_refl _))
      rw [← hLN] at hcl
      have HCL := Lib.hid hcl
      have HLN := Lib.hid (show LN = 0 ↔ wholeB (O.map E3.ent) o = true by rw [hLN]; exact filter_len)
      clear hcl hLN
      by_cases h0 : 0 < LN
      · have hd0 : decide ((LN : Int) > 0) = true := by simpa using h0
        have hd1 : (0 : Int) < LN := by omega
        go_upto_region 11 with (first
          | (refine wpList_loadAgg _ rfl 46 _ rfl _ Tryz.underlying46 rfl w.heap.size 0 (by rfl) (o.cs p c) (by rw [opInfo, HC.out]) HACw6.out ?_)
          | (go_at_call 58; refine HCL.out.mono ?_; rintro e w7 ⟨q7, c7, rfl, hb7⟩))
        clear hd0 hd1
        have hz7 := hb7.size
        have HBw7 := Lib.hid (HBw6.out.trans (hb7.mono (by omega)))
        have HHw7 := Lib.hid (HHw6.out.under hb7)
        have HNCw7 := Lib.hid (HNCw6.out.of_block (hb7.block _ (by omega)))
        have HACw7 := Lib.hid (HACw6.out.of_block (hb7.block _ (by omega)))
        clear hb7
        obtain ⟨N7, hN7a, hN7b⟩ : ∃ n, w7.heap.size ≤ n ∧ n ≤ w7.heap.size := ⟨_, Nat.le_refl _, Nat.le_refl _⟩
        refine wp_region_noPanic ?_
        refine wp_region_till 7 (fun w' => Below N7 w7 w') (by kernel_rfl) (by kernel_rfl) ?_
        obtain ⟨wA8, hwA8⟩ : ∃ wA8, wA8 = w7.drew := ⟨_, rfl⟩
        have hSwA8 : Below N7 w7 wA8 := by rw [hwA8]; exact (Below.refl N7 w7).drew
        rw [← hwA8]
        have HS8 := Lib.hid hSwA8
        have hzwA8 : wA8.heap.size = w7.heap.size := by rw [hwA8]; rfl
        clear hwA8 hSwA8
        go_simp
        refine Till.pure 0 rfl rfl (by kernel_rfl) (NoPanic.noFrame _) HS8.out ?_
        go_big_quiet_step (fail)
        refine wpQuiet_nil ?_
        refine Till.pure 1 rfl rfl (by kernel_rfl) (NoPanic.noFrame _) HS8.out ?_
        go_big_quiet_step (fail)
        refine wpQuiet_nil ?_
        refine Till.pure 2 rfl rfl (by kernel_rfl) (NoPanic.noFrame _) HS8.out ?_
        go_big_quiet_step (fail)
        refine wpQuiet_nil ?_
        refine Till.load 3 78 _ ⟨b, 1, none⟩ (.map (some mw)) rfl rfl rfl rfl (by kernel_rfl) (NoPanic.noFrame _) HS8.out (fun w' hw' => run_loadVar_one Tryz.underlying78 rfl (HHw7.out.below hw' hN7a).c1) ?_
        go_simp
        refine Till.load 4 31 _ ⟨w3.heap.size, 0, none⟩ (idv nm) rfl rfl rfl rfl (by kernel_rfl) (NoPanic.noFrame _) HS8.out (fun w' hw' => run_loadAgg Tryz.underlying31 rfl (by rw [HI.out, bcs_length, HNM.out]) (HNCw7.out.of_block (hw'.block _ (by omega)))) ?_
        go_simp
        refine Till.load 5 46 _ ⟨w.heap.size, 0, none⟩ (.agg (o.cs p c).toArray) rfl rfl rfl rfl (by kernel_rfl) (NoPanic.noFrame _) HS8.out (fun w' hw' => run_loadAgg Tryz.underlying46 rfl (by rw [opInfo, HC.out]) (HACw7.out.of_block (hw'.block _ (by omega)))) ?_
        go_simp
        refine Till.act 6 rfl rfl (by kernel_rfl) rfl ?_
        intro K hK
        go_wp2_with (first | (go_at_call 59; refine (opclone_any o HD.out p c wA8 (HS.out.below (HBw7.out.trans (HS8.out.mono (by omega))) (Nat.le_refl _))).mono ?_; rintro e w8 ⟨v8, rfl, ⟨p8, c8, rfl, hown8⟩, hb8⟩))
        have hz8 := hb8.size
        refine hK _ _ (HS8.out.trans (hb8.mono (by omega))) ?_
        clear hK K
        have HBx8 := Lib.hid (HS8.out.trans (hb8.mono (by omega)))
        have HHw8 := Lib.hid (HHw7.out.below HBx8.out hN7a)
        have HO8 := Lib.hid hown8
        have HBw8 := Lib.hid (HBw7.out.trans (HBx8.out.mono (by omega)))
        clear hown8 hb8
        refine Till.tail _ rfl rfl (by kernel_rfl) (by kernel_rfl) ?_
        obtain ⟨kl, hkey⟩ := idKeyOf nm HNM.out
        refine wpList_store _ rfl _ _ _ 78 rfl 31 46 idLaw Tryz.underlying78 mw (W.map E3.kv) (by rfl) HHw8.out.wait (idv nm) (.agg (o.cs p8 c8).toArray) kl (by rfl) (by rfl) hkey ?_
        intro w9 hg9 hs9 hm9
        have hrow8 : ∀ i off, p8 = some ⟨i, off, none⟩ → w7.heap.size ≤ i ∧ i < w8.heap.size := fun i off e => by
          have := HO8.out.at e
          omega
        have hdag : DagSet w9 b mo mw mt (withRow B p8) O (W ++ [(⟨nm, o, p8, c8⟩ : E3)]) T := by
          refine HHw8.out.setW hg9 (fun i hi => .inl hi) ?_ ?_
          · refine (hm9 _ (restAt_new (notin_names HBb7x.out.symm))).perm ?_
            rw [List.map_append]
            exact (List.perm_append_singleton _ _).symm
          · intro e he
            rcases List.mem_append.1 he with he | he
            · exact .inl he
            · rw [List.mem_singleton.1 he]
              refine .inr ⟨⟨HD.out, HNM.out, ⟨HO8.out.src⟩, fun i off e _ => .inr ⟨off, e⟩⟩, fun i off e => ?_⟩
              have := hrow8 i off e
              omega
        have hkeep : Keeps (threeB mo mw mt) w w9 := (Keeps.of_below HBw8.out).trans (Keeps.of_grown hg9 (.inr (.inl rfl)))
        have HTK := Lib.hid (show takeD ⟨O.map E3.ent, W.map E3.ent⟩ o = (⟨O.map E3.ent, W.map E3.ent ++ [(nm, o)]⟩, [], 0) by
          unfold takeD
          rw [if_pos hg, ← HNMX.out, ← HBb6x.out, ← HBb7x.out, if_neg (by simp)]
          have hw0 : wholeB (O.map E3.ent) o = false := by
            cases hwb : wholeB (O.map E3.ent) o with
            | false => rfl
            | true => have := HLN.out.2 hwb; omega
          simp only
          rw [if_pos hw0])
        have hfin : ∃ v B' O' W' T', Ending.returned (.tuple #[.slice none 0 0, .int .i64 0]) = .returned (.tuple #[v, .int .i64 (takeD ⟨O.map E3.ent, W.map E3.ent⟩ o).2.2]) ∧
            O'.map E3.ent = (takeD ⟨O.map E3.ent, W.map E3.ent⟩ o).1.ops ∧ W'.map E3.ent = (takeD ⟨O.map E3.ent, W.map E3.ent⟩ o).1.wait ∧
            DagSet w9 b mo mw mt B' O' W' T' ∧ (∀ i, B' i → (B i ∨ w.heap.size ≤ i) ∧ i < w9.heap.size) ∧ Owns w9 w.heap.size 31 32 v (takeD ⟨O.map E3.ent, W.map E3.ent⟩ o).2.1.length (pcs (takeD ⟨O.map E3.ent, W.map E3.ent⟩ o).2.1) ∧ Keeps (threeB mo mw mt) w w9 := by
          rw [HTK.out]
          refine ⟨_, withRow B p8, O, W ++ [(⟨nm, o, p8, c8⟩ : E3)], T, rfl, rfl, by simp [E3.ent], hdag, fun i hi => ?_, Owns.nil _ _ _ _, hkeep⟩
          rcases hi with hi | ⟨off, hi⟩
          · exact ⟨.inl hi, by have := HBL.out i hi; omega⟩
          · have := hrow8 i off hi
            exact ⟨.inr (by omega), by omega⟩
        have HFIN := Lib.hid hfin
        clear hfin hkeep hdag hm9 hg9 hkey hrow8
        go_wp2
        refine NoPanic.normal ?_
        go_wp2
        refine bodyPost_ret (results_tmp2 rfl _ _ _) rfl ?_
        exact HFIN.out
      · obtain rfl : LN = 0 := by omega
        go_upto_region 13 with (first
          | (refine wpList_loadAgg _ rfl 46 _ rfl _ Tryz.underlying46 rfl w.heap.size 0 (by rfl) (o.cs p c) (by rw [opInfo, HC.out]) HACw6.out ?_)
          | (go_at_call 58; refine HCL.out.mono ?_; rintro e w7 ⟨q7, c7, rfl, hb7⟩))
        have hz7 := hb7.size
        have HWH := Lib.hid (show wholeB (O.map E3.ent) o = true by simpa using HLN.out)
        have HBw7 := Lib.hid (HBw6.out.trans (hb7.mono (by omega)))
        have HHw7 := Lib.hid (HHw6.out.under hb7)
        have HNCw7 := Lib.hid (HNCw6.out.of_block (hb7.block _ (by omega)))
        have HACw7 := Lib.hid (HACw6.out.of_block (hb7.block _ (by omega)))
        clear hb7
        refine wp_region_noPanic ?_
        refine wp_region_till 5 (fun w' => Keeps (twoB mo mt) w7 w') (by kernel_rfl) (by kernel_rfl) ?_
        obtain ⟨wA8, hwA8⟩ : ∃ wA8, wA8 = w7.drew := ⟨_, rfl⟩
        have hSwA8 : Below w7.heap.size w7 wA8 := by rw [hwA8]; exact (Below.refl _ w7).drew
        rw [← hwA8]
        have HS8 := Lib.hid (show Keeps (twoB mo mt) w7 wA8 from Keeps.of_below hSwA8)
        have HBwA8 := Lib.hid hSwA8
        have hzwA8 : wA8.heap.size = w7.heap.size := by rw [hwA8]; rfl
        clear hwA8 hSwA8
        go_simp
        refine Till.pure 0 rfl rfl (by kernel_rfl) (NoPanic.noFrame _) HS8.out ?_
        go_big_quiet_step (fail)
        refine wpQuiet_nil ?_
        refine Till.load 1 31 _ ⟨w3.heap.size, 0, none⟩ (idv nm) rfl rfl rfl rfl (by kernel_rfl) (NoPanic.noFrame _) HS8.out (fun w' hw' => run_loadAgg Tryz.underlying31 rfl (by rw [HI.out, bcs_length, HNM.out]) (HNCw7.out.of_block (hw'.block _ (by omega) (fun e => by rcases e with e | e <;> omega)))) ?_
        go_simp
        refine Till.load 2 46 _ ⟨w.heap.size, 0, none⟩ (.agg (o.cs p c).toArray) rfl rfl rfl rfl (by kernel_rfl) (NoPanic.noFrame _) HS8.out (fun w' hw' => run_loadAgg Tryz.underlying46 rfl (by rw [opInfo, HC.out]) (HACw7.out.of_block (hw'.block _ (by omega) (fun e => by rcases e with e | e <;> omega)))) ?_
        go_simp
        refine Till.act 3 rfl rfl (by kernel_rfl) rfl ?_
        intro K hK
        go_wp2_with (first | (go_at_call 59; refine (opclone_any o HD.out p c wA8 (HS.out.below (HBw7.out.trans (HBwA8.out.mono (by omega))) (Nat.le_refl _))).mono ?_; rintro e w8 ⟨v8, rfl, ⟨p8, c8, rfl, hown8⟩, hb8⟩))
        have hz8 := hb8.size
        have HBx8 := Lib.hid (HBwA8.out.trans (hb8.mono (by omega)))
        refine hK _ _ (Keeps.of_below HBx8.out) ?_
        clear hK K
        have HHw8 := Lib.hid ((HHw7.out.under HBx8.out).monoB (B' := withRow B p8) (fun i hi => .inl hi))
        have HO8 := Lib.hid hown8
        have HBw8 := Lib.hid (HBw7.out.trans (HBx8.out.mono (by omega)))
        have HROW := Lib.hid (show ∀ i off, p8 = some ⟨i, off, none⟩ → w7.heap.size ≤ i ∧ i < w8.heap.size from fun i off e => by
          have := HO8.out.at e
          omega)
        clear hown8 hb8
        have HPUT := Lib.hid (put_any b mo mw mt (withRow B p8) O W T nm HNM.out o HD.out p8 c8 w8 HHw8.out ⟨HO8.out.src⟩
          (fun i off e => by have := HROW.out i off e; exact ⟨fun _ => .inr ⟨off, e⟩, by omega, by omega, by omega, by omega⟩) (notin_names HBb6x.out.symm)
          (fun m => Nat.le_trans (behind_le (fun e he => (HHw8.out.okO e he).ok.len) m) (by omega)))
        refine Till.act 4 rfl rfl (by kernel_rfl) rfl ?_
        intro K hK
        go_wp2_with (first | (go_at_call 60; refine HPUT.out.mono ?_; rintro e w9 (⟨hdep, rfl, hdag, hk9⟩ | ⟨hdep, rfl, hb9⟩)))
        · refine hK _ _ ((Keeps.of_below HBx8.out).trans hk9) ?_
          clear hK K
          refine Till.tail _ rfl rfl (by kernel_rfl) (by kernel_rfl) ?_
          have HDAG := Lib.hid hdag
          have HK9 := Lib.hid hk9
          have HDEP := Lib.hid hdep
          have hz9 := hk9.size
          clear hdag hk9 hdep HPUT
          go_wp2
          refine NoPanic.normal ?_
          go_upto_region 15 with fail
          have HNC9 := Lib.hid (HNCw7.out.of_block ((HK9.out.block _ (by omega) (fun e => by rcases e with e | e <;> omega)).trans (HBx8.out.block _ (by omega))))
          go_upto_region 16 with (first
            | (refine wpList_loadAgg _ rfl 31 _ rfl _ Tryz.underlying31 rfl w3.heap.size 0 (by rfl) (bcs nm) (by rw [HI.out, bcs_length, HNM.out]) HNC9.out ?_)
            | (refine wpList_buildOne _ rfl 28 _ rfl 31 32 _ Tryz.underlying28 HI.out (by omega) (by omega) HZ.out (bcs nm).toArray (by rfl) (by rw [List.size_toArray, bcs_length, HNM.out]) ?_))
          obtain ⟨w10, hw10⟩ : ∃ w10, w10 = w9.alloc (.cells (bcs nm).toArray 31) := ⟨_, rfl⟩
          rw [← hw10]
          have hb10 : Below w9.heap.size w9 w10 := by rw [hw10]; exact (Below.refl _ w9).alloc (Nat.le_refl _) _
          have HO10 := Lib.hid (show Owns w10 w8.heap.size 31 32 (.slice (some ⟨w9.heap.size, 0, none⟩) 1 1) 1 (pcs [nm]) by
            rw [hw10]
            refine ⟨by rw [pcs_length (by simpa using HNM.out)]; rfl, .inr ⟨w9.heap.size, 1, (bcs nm).toArray, (0, 0), rfl, by omega, (MapKept.heap_alloc _ _).1, ⟨.inl (Nat.zero_le _), fun _ => rfl⟩, Nat.le_refl _, by unfold maxLen; omega, by rw [List.size_toArray, bcs_length, HNM.out], ?_⟩⟩
            have : (bcs nm).length = 32 := by rw [bcs_length, HNM.out]
            simp [pcs, List.take_of_length_le, this])
          have hz10 : w9.heap.size < w10.heap.size := by rw [hw10]; simp
          have HK10 := Lib.hid ((HK9.out.mono (T := threeB mo mw mt) (fun i hi => hi.elim .inl (fun h => .inr (.inr h)))).trans (Keeps.of_below hb10))
          have HDAG10 := Lib.hid (HDAG.out.under hb10)
          clear hw10 hb10
          obtain ⟨O1, hO1⟩ : ∃ O1, O1 = O ++ [(⟨nm, o, p8, c8⟩ : E3)] := ⟨_, rfl⟩
          obtain ⟨T1, hT1⟩ : ∃ T1, T1 = bumps T o.preds := ⟨_, rfl⟩
          rw [← hO1, ← hT1] at HDAG10
          have hO1e : O1.map E3.ent = O.map E3.ent ++ [(nm, o)] := by rw [hO1]; simp [E3.ent]
          have hO1l : O1.length = O.length + 1 := by rw [hO1]; simp
          have HTK := Lib.hid (show takeD ⟨O.map E3.ent, W.map E3.ent⟩ o = ((drain W.length ⟨O1.map E3.ent, W.map E3.ent⟩ [nm]).1, (drain W.length ⟨O1.map E3.ent, W.map E3.ent⟩ [nm]).2, 0) by
            unfold takeD
            rw [if_pos hg, ← HNMX.out, ← HBb6x.out, ← HBb7x.out, if_neg (by simp)]
            simp only [HWH.out]
            rw [if_neg (by simp), if_pos HDEP.out, hO1e, List.length_map])
          have HIN1 := Lib.hid (show DInv ⟨O1.map E3.ent, W.map E3.ent⟩ by
            rw [hO1e]
            exact HIN.out.push (e := (nm, o)) HNMX.out (hasN_false.1 HBb6x.out.symm) (hasN_false.1 HBb7x.out.symm) HWH.out HDEP.out)
          have HROW1 := Lib.hid (show ∀ i, withRow B p8 i → i < w8.heap.size ∧ (B i ∨ w.heap.size ≤ i) from fun i hi => by
            rcases hi with hi | ⟨off, hi⟩
            · have := HBL.out i hi
              exact ⟨by omega, .inl hi⟩
            · have := HROW.out i off hi
              exact ⟨by omega, .inr (by omega)⟩)
          clear hO1 hT1 hO1e
          go_upto_region 17 with (first
            | (go_at_call 61; refine (ready_any b mo mw mt (withRow B p8) O1 W T1 w10 HDAG10.out (by omega)).mono ?_; rintro e w11 ⟨hb11, y0, m0, rfl, hy0, hrd⟩)
            | (refine wpList_allocZ _ rfl 31 rfl _ HZ.out ?_)
            | (refine wpList_storeNew _ w11 rfl 31 _ _ rfl (fillB [] 32) rfl (by rfl) (bcs y0).toArray (by rfl) (by rw [HI.out, List.size_toArray, bcs_length, hy0]) (by show 32 = (bcs y0).length; rw [bcs_length, hy0]) (by simpa using bcs_one y0) ?_))
          obtain ⟨w12, hw12⟩ : ∃ w12, w12 = w11.alloc (.cells (bcs y0).toArray 31) := ⟨_, rfl⟩
          rw [← hw12]
          have hz11 := hb11.size
          have hz12 : w11.heap.size < w12.heap.size := by rw [hw12]; simp
          have hb12 : Below w10.heap.size w10 w12 := by rw [hw12]; exact hb11.alloc (by omega) _
          have HN12 := Lib.hid (show w12.heap[w11.heap.size]? = some (.cells (bcs y0).toArray 31 (0, 0)) by rw [hw12]; exact (MapKept.heap_alloc _ _).1)
          have HD12 := Lib.hid (HDAG10.out.under hb12)
          have HO12 := Lib.hid (HO10.out.under hb12)
          have HK12 := Lib.hid (HK10.out.trans (Keeps.of_below hb12))
          have HY0 := Lib.hid hy0
          have HRD0 := Lib.hid hrd
          clear hw12 hb12 hb11 hy0 hrd
          go_loopw [11, 12, 13] (fun v kp mb wr => ∃ (O2 W2 : List E3) (T2 : List (Nm × Nat)) (out : List Nm) (k : Nat) (y : Nm) (more : Bool), kp = .pointer (some ⟨k, 0, none⟩) ∧ mb = .bool more ∧ Hid (y.length = 32) ∧ Hid (wr.heap[k]? = some (.cells (bcs y).toArray 31 (0, 0))) ∧ w8.heap.size ≤ k ∧ v.ownBlock ≠ some k ∧
              Hid (Owns wr w8.heap.size 31 32 v out.length (pcs out)) ∧ Hid (DagSet wr b mo mw mt (withRow B p8) O2 W2 T2) ∧ Hid (DInv ⟨O2.map E3.ent, W2.map E3.ent⟩) ∧ Hid (ReadyR O2 W2 y more) ∧ O2.length + W2.length ≤ 901 ∧
              Hid (drain W.length ⟨O1.map E3.ent, W.map E3.ent⟩ [nm] = drain W2.length ⟨O2.map E3.ent, W2.map E3.ent⟩ out) ∧ Hid (Keeps (threeB mo mw mt) w8 wr) ∧ out.length + W2.length ≤ 901) (fun _ _ _ wr => mapSize wr mw)
          case atStart => exact ⟨O1, W, T1, [nm], w11.heap.size, y0, m0, rfl, rfl, HY0, HN12, by omega, fun e => by have e' : w9.heap.size = w11.heap.size := Option.some.inj e; omega, HO12, HD12, HIN1, HRD0, by omega, Lib.hid rfl, HK12, by simp; omega⟩
          case round =>
            obtain ⟨O2, W2, T2, out, k, y, more, rfl, rfl, HY, HKC, hk2, hne, HOW, HDG, HINV, HRD, hsum, HDR, HKP, hol⟩ := hrel
            have hzr := HKP.out.size
            have hklt := (Array.getElem?_eq_some_iff.1 HKC.out).1
            have HMS := Lib.hid (show mapSize wr mw = W2.length by rw [HDG.out.wait.size_eq, List.length_map])
            have HZY := Lib.hid (show (fillB [] 32).size = (bcs y).toArray.size by rw [show (bcs y).toArray.size = (bcs y).length from rfl, bcs_length, HY.out]; rfl)
            cases more with
            | false =>
              go_wp2
              refine bodyPost_ret (results_tmp2 rfl _ _ _) rfl ?_
              have hstop : drain W.length ⟨O1.map E3.ent, W.map E3.ent⟩ [nm] = (⟨O2.map E3.ent, W2.map E3.ent⟩, out) := by
                rw [HDR.out]
                refine drain_stop (bestI_none_of (s := ⟨O2.map E3.ent, W2.map E3.ent⟩) fun x hx => ?_)
                obtain ⟨e, he, rfl⟩ := List.mem_map.1 hx
                exact HRD.out.2 rfl e he
              rw [HTK.out, hstop]
              refine ⟨_, withRow B p8, O2, W2, T2, rfl, rfl, rfl, HDG.out, fun i hi => ⟨(HROW1.out i hi).2, by have := (HROW1.out i hi).1; omega⟩, HOW.out.down (by omega), (Keeps.of_below HBw8.out).trans HKP.out⟩
            | true =>
              obtain ⟨i, x, hxi, hxn, hbi, hwx⟩ : ∃ i x, W2[i]? = some x ∧ x.n = y ∧ bestI (O2.map E3.ent) (W2.map E3.ent) (W2.map E3.ent).length = some i ∧ wholeB (O2.map E3.ent) x.o = true := by
                obtain ⟨x0, hx0, hxy, hbest⟩ := HRD.out.1 rfl
                obtain ⟨i, h1, h2⟩ := bestI_of_best (s := ⟨O2.map E3.ent, W2.map E3.ent⟩) HINV.out.nd2 hbest
                have h3 := h2
                simp only [List.getElem?_map] at h3
                cases hx : W2[i]? with
                | none => rw [hx] at h3; cases h3
                | some x =>
                  rw [hx] at h3
                  have h4 : x.ent = x0.ent := Option.some.inj h3
                  refine ⟨i, x, hx, ?_, h1, ?_⟩
                  · rw [hxy]; exact congrArg Prod.fst h4
                  · rw [show x.o = x0.o from congrArg Prod.snd h4]; exact hbest.whole
              subst hxn
              have HXI := Lib.hid hxi
              have HBI := Lib.hid hbi
              have HWX := Lib.hid hwx
              have hxm := List.mem_of_getElem? hxi
              have HEA := Lib.hid (show e3At W2 x.n = some x from find_mem (kv_nodup HDG.out.wait.nodup) hxm)
              have HXOK := Lib.hid (HDG.out.okW x hxm)
              have hiW : i < W2.length := (List.getElem?_eq_some_iff.1 hxi).1
              have HXR := Lib.hid (fun j off e => HDG.out.rows x (List.mem_append.2 (.inr hxm)) j off e)
              have HCX := Lib.hid (OpV.cs_length HXOK.out.ok x.p x.c)
              have HKA := Lib.hid (show cellsAt wr k 0 (bcs x.n) from fun j u hj => by rw [cell_of_row _ _ _ _ _ _ HKC.out, Nat.zero_add]; simpa using hj)
              clear hxi hbi hwx hxm
              go_upto_region 19 with fail
              obtain ⟨NR, hNRa, hNRb⟩ : ∃ n, wr.heap.size ≤ n ∧ n ≤ wr.heap.size := ⟨_, Nat.le_refl _, Nat.le_refl _⟩
              refine wp_region_noPanic ?_
              refine wp_region_till 7 (fun w' => Below NR wr w') (by kernel_rfl) (by kernel_rfl) ?_
              obtain ⟨wA13, hwA13⟩ : ∃ wA13, wA13 = wr.drew := ⟨_, rfl⟩
              have hSwA13 : Below NR wr wA13 := by rw [hwA13]; exact (Below.refl NR wr).drew
              rw [← hwA13]
              have HS13 := Lib.hid hSwA13
              have hzwA13 : wA13.heap.size = wr.heap.size := by rw [hwA13]; rfl
              clear hwA13 hSwA13
              go_simp
              have HLK := Lib.hid (show ∀ w', Below NR wr w' → (Instr.lookup 78 (.map (some mw)) (idv x.n) false).run Tryz.prog w' = .ok (.agg (x.o.cs x.p x.c).toArray) w' from fun w' hw' => by
                have h1 := (HDG.out.below hw' hNRa).wait.look3 HY.out false
                rw [valAt, HEA.out] at h1
                exact h1)
              refine Till.pure 0 rfl rfl (by kernel_rfl) (NoPanic.noFrame _) HS13.out ?_
              go_big_quiet_step (fail)
              refine wpQuiet_nil ?_
              refine Till.pure 1 rfl rfl (by kernel_rfl) (NoPanic.noFrame _) HS13.out ?_
              go_big_quiet_step (fail)
              refine wpQuiet_nil ?_
              refine Till.pure 2 rfl rfl (by kernel_rfl) (NoPanic.noFrame _) HS13.out ?_
              go_big_quiet_step (fail)
              refine wpQuiet_nil ?_
              refine Till.load 3 78 _ ⟨b, 1, none⟩ (.map (some mw)) rfl rfl rfl rfl (by kernel_rfl) (NoPanic.noFrame _) HS13.out (fun w' hw' => run_loadVar_one Tryz.underlying78 rfl (HDG.out.below hw' hNRa).c1) ?_
              go_simp
              refine Till.load 4 31 _ ⟨k, 0, none⟩ (idv x.n) rfl rfl rfl rfl (by kernel_rfl) (NoPanic.noFrame _) HS13.out (fun w' hw' => run_loadAgg Tryz.underlying31 rfl (by rw [HI.out, bcs_length, HY.out]) (HKA.out.of_block (hw'.block _ (by omega)))) ?_
              go_simp
              refine Till.look 5 78 _ _ false (.map (some mw)) (idv x.n) _ rfl rfl rfl (by rfl) (by rfl) (by kernel_rfl) (NoPanic.noFrame _) HS13.out HLK.out ?_
              go_simp
              refine Till.act 6 rfl rfl (by kernel_rfl) rfl ?_
              intro K hK
              refine wp_allocZ _ 46 rfl _ HZO.out ?_
              refine hK _ _ (HS13.out.alloc (by omega) _) ?_
              clear hK K
              refine Till.tail _ rfl rfl (by kernel_rfl) (by kernel_rfl) ?_
              refine wpList_storeNew _ wA13 rfl 46 _ _ rfl _ rfl (by rfl) (x.o.cs x.p x.c).toArray (by rfl) (by rw [opInfo, List.size_toArray, HCX.out]) (show 38 = (x.o.cs x.p x.c).toArray.size by rw [List.size_toArray, HCX.out]) (by simpa using OpV.cs_one x.o x.p x.c) ?_
              obtain ⟨w14, hw14⟩ : ∃ w14, w14 = wA13.alloc (.cells (x.o.cs x.p x.c).toArray 46) := ⟨_, rfl⟩
              rw [← hw14]
              have hb14 : Below wr.heap.size wr w14 := by rw [hw14]; exact (HS13.out.mono hNRa).alloc (by omega) _
              have HX14 := Lib.hid (show cellsAt w14 wr.heap.size 0 (x.o.cs x.p x.c) by rw [hw14, ← hzwA13]; simpa using cellsAt_new wA13 (x.o.cs x.p x.c).toArray 46)
              have hz14 : wA13.heap.size < w14.heap.size := by rw [hw14]; simp
              have HDG14 := Lib.hid (HDG.out.under hb14)
              have HOW14 := Lib.hid (HOW.out.under hb14)
              have HKA14 := Lib.hid (HKA.out.of_block (hb14.block _ hklt))
              have HKP14 := Lib.hid (HKP.out.trans (Keeps.of_below hb14))
              have HB14k := Lib.hid hb14
              clear hw14 hb14
              go_wp2
              refine NoPanic.normal ?_
              go_upto_region 20 with fail
              obtain ⟨N14, hN14a, hN14b⟩ : ∃ n, w14.heap.size ≤ n ∧ n ≤ w14.heap.size := ⟨_, Nat.le_refl _, Nat.le_refl _⟩
              refine wp_region_noPanic ?_
              refine wp_region_till 5 (fun w' => Below N14 w14 w') (by kernel_rfl) (by kernel_rfl) ?_
              obtain ⟨wA15, hwA15⟩ : ∃ wA15, wA15 = w14.drew := ⟨_, rfl⟩
              have hSwA15 : Below N14 w14 wA15 := by rw [hwA15]; exact (Below.refl N14 w14).drew
              rw [← hwA15]
              have HS15 := Lib.hid hSwA15
              have hzwA15 : wA15.heap.size = w14.heap.size := by rw [hwA15]; rfl
              clear hwA15 hSwA15
              go_simp
              refine Till.pure 0 rfl rfl (by kernel_rfl) (NoPanic.noFrame _) HS15.out ?_
              go_big_quiet_step (fail)
              refine wpQuiet_nil ?_
              refine Till.pure 1 rfl rfl (by kernel_rfl) (NoPanic.noFrame _) HS15.out ?_
              go_big_quiet_step (fail)
              refine wpQuiet_nil ?_
              refine Till.pure 2 rfl rfl (by kernel_rfl) (NoPanic.noFrame _) HS15.out ?_
              go_big_quiet_step (fail)
              refine wpQuiet_nil ?_
              refine Till.load 3 78 _ ⟨b, 1, none⟩ (.map (some mw)) rfl rfl rfl rfl (by kernel_rfl) (NoPanic.noFrame _) HS15.out (fun w' hw' => run_loadVar_one Tryz.underlying78 rfl (HDG14.out.below hw' hN14a).c1) ?_
              go_simp
              refine Till.load 4 31 _ ⟨k, 0, none⟩ (idv x.n) rfl rfl rfl rfl (by kernel_rfl) (NoPanic.noFrame _) HS15.out (fun w' hw' => run_loadAgg Tryz.underlying31 rfl (by rw [HI.out, bcs_length, HY.out]) (HKA14.out.of_block (hw'.block _ (by omega)))) ?_
              go_simp
              refine Till.tail _ rfl rfl (by kernel_rfl) (by kernel_rfl) ?_
              have HDG15 := Lib.hid (HDG14.out.below HS15.out hN14a)
              obtain ⟨kx, hkx⟩ := idKeyOf x.n HY.out
              refine wpList_drop _ rfl _ _ 78 31 rfl 46 idLaw Tryz.underlying78 mw (W2.map E3.kv) (by rfl) HDG15.out.wait (idv x.n) kx (by rfl) hkx ?_
              intro w16 hg16 hs16 hm16
              obtain ⟨W3, hW3⟩ : ∃ W3, W3 = W2.eraseIdx i := ⟨_, rfl⟩
              have hW3l : W3.length + 1 = W2.length := by rw [hW3, List.length_eraseIdx_of_lt hiW]; omega
              have hW3e : W3.map E3.ent = (W2.map E3.ent).eraseIdx i := by rw [hW3, Go.ChangeMaps.map_eraseIdx]
              have HDG16 := Lib.hid (show DagSet w16 b mo mw mt (withRow B p8) O2 W3 T2 by
                rw [hW3]
                exact HDG15.out.setW hg16 (fun _ h => h) (hm16 _ (restAt_erase HXI.out)) (fun e he => .inl ((List.eraseIdx_sublist _ _).subset he)))
              have hmwx : mw < w14.heap.size := HDG14.out.wait.lt
              have HOW16 := Lib.hid ((HOW14.out.below HS15.out hN14a).keep (w' := w16) (fun g hg => hg16.block g (by have := (HOW14.out.lt hg).2; omega) (fun e => by have := (HOW14.out.lt hg).1; have := Option.some.inj e; omega)))
              have HKA16 := Lib.hid (HKA14.out.of_block ((hg16.block k (by omega) (fun e => by have := Option.some.inj e; omega)).trans (HS15.out.block _ (by omega))))
              have HX16 := Lib.hid (HX14.out.of_block ((hg16.block wr.heap.size (by omega) (fun e => by have := Option.some.inj e; omega)).trans (HS15.out.block _ (by omega))))
              have HKP16 := Lib.hid ((HKP14.out.trans (Keeps.of_below (HS15.out.mono hN14a))).trans (Keeps.of_grown hg16 (.inr (.inl rfl))))
              have hz16 : w16.heap.size = w14.heap.size := by omega
              have HW3E := Lib.hid hW3e
              have HINS := Lib.hid (HINV.out.erase (i := i) (e := x.ent) (by rw [List.getElem?_map, HXI.out]; rfl))
              have HDRG := Lib.hid (drain_go (s := ⟨O2.map E3.ent, W2.map E3.ent⟩) (out := out) HBI.out (e := x.ent) (by rw [List.getElem?_map, HXI.out]; rfl))
              have HXS16 := Lib.hid (show Src w16 x.p (pcs x.o.preds) from HXOK.out.src.of_blocks (by omega) (fun j off e hlt2 _ => by
                have h1 := HXR.out j off e
                have h2 := hlt2
                exact (hg16.block j (by omega) (fun e2 => h1.2.2.1 (Option.some.inj e2))).trans ((HS15.out.block j (by omega)).trans (HB14k.out.block j h2))))
              clear hW3 hW3e hm16 hg16 hs16 hkx hmwx
              go_wp2
              refine NoPanic.normal ?_
              go_upto_region 21 with fail
              have HPUT2 := Lib.hid (put_any b mo mw mt (withRow B p8) O2 W3 T2 x.n HY.out x.o HXOK.out.ok x.p x.c w16 HDG16.out HXS16.out
                (fun j off e => ⟨HXOK.out.at_ j off e, HXR.out j off e⟩) (notin_names (hasN_false.2 HINS.out.2.2.1))
                (fun m => Nat.le_trans (behind_le (fun e he => (HDG16.out.okO e he).ok.len) m) (by omega)))
              go_upto_if 94 with (first
                | (refine wpList_loadAgg _ rfl 31 _ rfl _ Tryz.underlying31 rfl k 0 (by rfl) (bcs x.n) (by rw [HI.out, bcs_length, HY.out]) HKA16.out ?_)
                | (refine wpList_loadAgg _ rfl 46 _ rfl _ Tryz.underlying46 rfl wr.heap.size 0 (by rfl) (x.o.cs x.p x.c) (by rw [opInfo, HCX.out]) HX16.out ?_)
                | (go_at_call 60; refine HPUT2.out.mono ?_; rintro e w17 (⟨hdep2, rfl, hdag17, hk17⟩ | ⟨hdep2, rfl, hb17⟩)))
              · have hz17 := hk17.size
                have HDG17 := Lib.hid hdag17
                have HKA17 := Lib.hid (HKA16.out.of_block (hk17.block k (by omega) (fun e => by rcases e with e | e <;> omega)))
                have HKP17 := Lib.hid (HKP16.out.trans (hk17.mono (T := threeB mo mw mt) (fun j hj => hj.elim .inl (fun h => .inr (.inr h)))))
                have HOW17 := Lib.hid (HOW16.out.keep (w' := w17) (fun g hg => by have := HOW16.out.lt hg; exact hk17.block g this.2 (fun e => by rcases e with e | e <;> omega)))
                have HDEP2 := Lib.hid hdep2
                clear hdag17 hk17 hdep2 HPUT2
                go_upto_region 23 with (first
                  | (refine wpList_loadAgg _ rfl 31 _ rfl _ Tryz.underlying31 rfl k 0 (by rfl) (bcs x.n) (by rw [HI.out, bcs_length, HY.out]) HKA17.out ?_)
                  | (refine wpList_buildOne _ rfl 28 _ rfl 31 32 _ Tryz.underlying28 HI.out (by omega) (by omega) HZ.out (bcs x.n).toArray (by rfl) (by rw [List.size_toArray, bcs_length, HY.out]) ?_)
                  | (at_builtin; refine wpList_append_G rfl _ _ 28 rfl w8.heap.size 31 i0 _ 32 32 Tryz.underlying28 hi hz0 hz1 hz2 (by rfl) (by omega) u11 out.length (pcs out) (by rfl) (HOW17.out.alloc _) (some ⟨w17.heap.size, 0, none⟩) 1 1 (bcs x.n) (by rfl) (by rw [bcs_length, HY.out]) (src_new w17 (bcs x.n) 31) (fun a e => by cases e; rfl) (bcs_one x.n) (by unfold maxLen; omega) (by omega) (by rw [World.size_alloc]; omega) ?_; intro v18 w18 hown18 hg18 hs18))
                rw [show pcs out ++ bcs x.n = pcs (out ++ [x.n]) by simp [pcs], show out.length + 1 = (out ++ [x.n]).length by simp] at hown18
                have hz18 := hg18.size
                rw [World.size_alloc] at hz18
                have hg18' : ∀ j, j < w17.heap.size → u11.ownBlock ≠ some j → w18.heap[j]? = w17.heap[j]? := fun j hj hne => (hg18.block j (by rw [World.size_alloc]; omega) (fun e => hne e.symm)).trans ((MapKept.heap_alloc _ _).2 _ hj)
                have HOW18 := Lib.hid hown18
                have hnob : ∀ j, j < w8.heap.size → u11.ownBlock ≠ some j := fun j hj e => by have := (HOW17.out.lt e).1; omega
                have HDG18 := Lib.hid (HDG17.out.keeps (w' := w18) (by omega) (fun j hj hB => hg18' j hj (hnob j (HROW1.out j hB).1)))
                have HKC18 := Lib.hid (HKA17.out.of_block (hg18' k (by omega) hne))
                have HKP18 := Lib.hid (HKP17.out.trans' (⟨hg18.os, hg18.tape, hg18.output, by omega, fun j hj hs => hg18' j hj (fun e => hs e)⟩ : Keeps (fun j => u11.ownBlock = some j) w17 w18) (fun j hj => .inr (HOW17.out.lt hj).1))
                have HINV18 := Lib.hid (show DInv ⟨(O2 ++ [(⟨x.n, x.o, x.p, x.c⟩ : E3)]).map E3.ent, W3.map E3.ent⟩ by
                  have h1 := DInv.step (s := ⟨O2.map E3.ent, W2.map E3.ent⟩) HINV.out (i := i) (e := x.ent) (by rw [List.getElem?_map, HXI.out]; rfl) HWX.out out
                  unfold putD at h1
                  rw [if_pos (show x.ent.2.depth = depthOf (O2.map E3.ent) x.ent.2 from HDEP2.out)] at h1
                  rw [HW3E.out, List.map_append]
                  exact h1)
                have HDR18 := Lib.hid (show drain W.length ⟨O1.map E3.ent, W.map E3.ent⟩ [nm] = drain W3.length ⟨(O2 ++ [(⟨x.n, x.o, x.p, x.c⟩ : E3)]).map E3.ent, W3.map E3.ent⟩ (out ++ [x.n]) by
                  have h2 := HDRG.out
                  unfold putD at h2
                  rw [if_pos (show x.ent.2.depth = depthOf (O2.map E3.ent) x.ent.2 from HDEP2.out), ← HW3E.out] at h2
                  simp only [List.length_map] at h2
                  rw [HDR.out, h2, List.map_append]
                  rfl)
                obtain ⟨O4, hO4⟩ : ∃ O4, O4 = O2 ++ [(⟨x.n, x.o, x.p, x.c⟩ : E3)] := ⟨_, rfl⟩
                obtain ⟨T4, hT4⟩ : ∃ T4, T4 = bumps T2 x.o.preds := ⟨_, rfl⟩
                obtain ⟨out4, hout4⟩ : ∃ l, l = out ++ [x.n] := ⟨_, rfl⟩
                rw [← hO4] at HDG18 HINV18 HDR18
                rw [← hT4] at HDG18
                rw [← hout4] at HOW18 HDR18
                have hl4 : O4.length = O2.length + 1 := by rw [hO4]; simp
                have hl5 : out4.length = out.length + 1 := by rw [hout4]; simp
                clear hO4 hT4 hout4 hown18 hg18 hg18' hnob HDG17 HOW17 HKP17
                go_upto_region 18 with (first
                  | (refine wpList_loadAgg _ rfl 31 _ rfl _ Tryz.underlying31 rfl k 0 (by rfl) (bcs x.n) (by rw [HI.out, bcs_length, HY.out]) HKC18.out ?_)
                  | (refine wpList_allocZ _ rfl 31 rfl _ HZ.out ?_)
                  | (refine wpList_storeNew _ w18 rfl 31 _ _ rfl (fillB [] 32) rfl (by rfl) (bcs x.n).toArray (by rfl) (by rw [HI.out, List.size_toArray, bcs_length, HY.out]) HZY.out (by simpa using bcs_one x.n) ?_))
                obtain ⟨wQ, hwQ⟩ : ∃ wQ, wQ = w18.alloc (.cells (bcs x.n).toArray 31) := ⟨_, rfl⟩
                rw [← hwQ]
                have hbQ : Below w18.heap.size w18 wQ := by rw [hwQ]; exact (Below.refl _ w18).alloc (Nat.le_refl _) _
                have hnQ : wQ.heap[w18.heap.size]? = some (.cells (bcs x.n).toArray 31 (0, 0)) := by rw [hwQ]; exact (MapKept.heap_alloc _ _).1
                have hzQ : w18.heap.size < wQ.heap.size := by rw [hwQ]; simp
                have HDGQ := Lib.hid (HDG18.out.under hbQ)
                have HNQ := Lib.hid hnQ
                have HOWQ := Lib.hid (HOW18.out.under hbQ)
                have HOLT := Lib.hid (show ∀ g, (v18 : Value).ownBlock = some g → g < w18.heap.size from fun g hg => (HOW18.out.lt hg).2)
                have HKPQ := Lib.hid (HKP18.out.trans (Keeps.of_below hbQ))
                clear hwQ hbQ hnQ
                go_wp2_with (first
                  | (go_at_call 61; refine (ready_any b mo mw mt (withRow B p8) O4 W3 T4 wQ HDGQ.out (by omega)).mono ?_; rintro e wR ⟨hbR, y2, m2, rfl, hy2, hrd2⟩)
                  | (refine wpList_storeRow rfl 31 _ _ rfl ((hbR.block _ (by omega)).trans HNQ.out) (by rfl) (bcs y2).toArray (by rfl) (by rw [HI.out, List.size_toArray, bcs_length, hy2]) (by show (bcs x.n).length = (bcs y2).length; rw [bcs_length, bcs_length, hy2, HY.out]) (by simpa using bcs_one y2) ?_; intro wS hwS hgS hsS))
                have hzR := hbR.size
                have hdgS : DagSet wS b mo mw mt (withRow B p8) O4 W3 T4 := (HDGQ.out.under hbR).keeps (by omega) (fun j hj hB => hgS.block j hj (fun e => by have := (HROW1.out j hB).1; have := Option.some.inj e; omega))
                have hoS := (HOWQ.out.under hbR).keep (w' := wS) (fun g hg => hgS.block g (by have := HOLT.out g hg; omega) (fun e => by have := HOLT.out g hg; have := Option.some.inj e; omega))
                have hkS : Keeps (threeB mo mw mt) w8 wS := ((HKPQ.out.trans (Keeps.of_below hbR))).trans' (Keeps.of_grown hgS (S := oneB w18.heap.size) rfl) (fun j hj => .inr (by have e : j = w18.heap.size := hj; omega))
                have hms : mapSize wS mw = W3.length := by rw [hdgS.wait.size_eq, List.length_map]
                have hmr : mapSize wr mw = W2.length := HMS.out
                have hne2 : (v18 : Value).ownBlock ≠ some w18.heap.size := fun e => by have := HOLT.out _ e; omega
                go_roundw
                case rel => exact ⟨O4, W3, T4, out4, w18.heap.size, y2, m2, rfl, rfl, Lib.hid hy2, Lib.hid hwS, by omega, hne2, Lib.hid hoS, Lib.hid hdgS, HINV18, Lib.hid hrd2, by omega, HDR18, Lib.hid hkS, by omega⟩
                case measure => rw [hms, hmr]; omega
              · have hz17 := hb17.size
                have HDG17 := Lib.hid (HDG16.out.under hb17)
                have HKA17 := Lib.hid (HKA16.out.of_block (hb17.block k (by omega)))
                have HKP17 := Lib.hid (HKP16.out.trans (Keeps.of_below hb17))
                have HOW17 := Lib.hid (HOW16.out.under hb17)
                have HINV17 := Lib.hid (show DInv ⟨O2.map E3.ent, W3.map E3.ent⟩ by rw [HW3E.out]; exact HINS.out.1)
                have HDR17 := Lib.hid (show drain W.length ⟨O1.map E3.ent, W.map E3.ent⟩ [nm] = drain W3.length ⟨O2.map E3.ent, W3.map E3.ent⟩ out by
                  have h2 := HDRG.out
                  unfold putD at h2
                  rw [if_neg (show ¬ x.ent.2.depth = depthOf (O2.map E3.ent) x.ent.2 from hdep2), ← HW3E.out] at h2
                  simp only [List.length_map] at h2
                  rw [HDR.out, h2])
                clear hb17 hdep2 HPUT2
                go_upto_region 18 with (first
                  | (refine wpList_loadAgg _ rfl 31 _ rfl _ Tryz.underlying31 rfl k 0 (by rfl) (bcs x.n) (by rw [HI.out, bcs_length, HY.out]) HKA17.out ?_)
                  | (refine wpList_allocZ _ rfl 31 rfl _ HZ.out ?_)
                  | (refine wpList_storeNew _ w17 rfl 31 _ _ rfl (fillB [] 32) rfl (by rfl) (bcs x.n).toArray (by rfl) (by rw [HI.out, List.size_toArray, bcs_length, HY.out]) HZY.out (by simpa using bcs_one x.n) ?_))
                obtain ⟨wQ, hwQ⟩ : ∃ wQ, wQ = w17.alloc (.cells (bcs x.n).toArray 31) := ⟨_, rfl⟩
                rw [← hwQ]
                have hbQ : Below w17.heap.size w17 wQ := by rw [hwQ]; exact (Below.refl _ w17).alloc (Nat.le_refl _) _
                have hnQ : wQ.heap[w17.heap.size]? = some (.cells (bcs x.n).toArray 31 (0, 0)) := by rw [hwQ]; exact (MapKept.heap_alloc _ _).1
                have hzQ : w17.heap.size < wQ.heap.size := by rw [hwQ]; simp
                have HDGQ := Lib.hid (HDG17.out.under hbQ)
                have HNQ := Lib.hid hnQ
                have HOWQ := Lib.hid (HOW17.out.under hbQ)
                have HOLT := Lib.hid (show ∀ g, (u11 : Value).ownBlock = some g → g < w17.heap.size from fun g hg => (HOW17.out.lt hg).2)
                have HKPQ := Lib.hid (HKP17.out.trans (Keeps.of_below hbQ))
                clear hwQ hbQ hnQ
                go_wp2_with (first
                  | (go_at_call 61; refine (ready_any b mo mw mt (withRow B p8) O2 W3 T2 wQ HDGQ.out (by omega)).mono ?_; rintro e wR ⟨hbR, y2, m2, rfl, hy2, hrd2⟩)
                  | (refine wpList_storeRow rfl 31 _ _ rfl ((hbR.block _ (by omega)).trans HNQ.out) (by rfl) (bcs y2).toArray (by rfl) (by rw [HI.out, List.size_toArray, bcs_length, hy2]) (by show (bcs x.n).length = (bcs y2).length; rw [bcs_length, bcs_length, hy2, HY.out]) (by simpa using bcs_one y2) ?_; intro wS hwS hgS hsS))
                have hzR := hbR.size
                have hdgS : DagSet wS b mo mw mt (withRow B p8) O2 W3 T2 := (HDGQ.out.under hbR).keeps (by omega) (fun j hj hB => hgS.block j hj (fun e => by have := (HROW1.out j hB).1; have := Option.some.inj e; omega))
                have hoS := (HOWQ.out.under hbR).keep (w' := wS) (fun g hg => hgS.block g (by have := HOLT.out g hg; omega) (fun e => by have := HOLT.out g hg; have := Option.some.inj e; omega))
                have hkS : Keeps (threeB mo mw mt) w8 wS := ((HKPQ.out.trans (Keeps.of_below hbR))).trans' (Keeps.of_grown hgS (S := oneB w17.heap.size) rfl) (fun j hj => .inr (by have e : j = w17.heap.size := hj; omega))
                have hms : mapSize wS mw = W3.length := by rw [hdgS.wait.size_eq, List.length_map]
                have hmr : mapSize wr mw = W2.length := HMS.out
                have hne2 : (u11 : Value).ownBlock ≠ some w17.heap.size := fun e => by have := HOLT.out _ e; omega
                go_roundw
                case rel => exact ⟨O2, W3, T2, out, w17.heap.size, y2, m2, rfl, rfl, Lib.hid hy2, Lib.hid hwS, by omega, hne2, Lib.hid hoS, Lib.hid hdgS, HINV17, Lib.hid hrd2, by omega, HDR17, Lib.hid hkS, by omega⟩
                case measure => rw [hms, hmr]; omega
        · refine hK _ _ ((Keeps.of_below HBx8.out).trans (Keeps.of_below hb9)) ?_
          clear hK K
          refine Till.tail _ rfl rfl (by kernel_rfl) (by kernel_rfl) ?_
          have HTK := Lib.hid (show takeD ⟨O.map E3.ent, W.map E3.ent⟩ o = (⟨O.map E3.ent, W.map E3.ent⟩, [], 10) by
            unfold takeD
            rw [if_pos hg, ← HNMX.out, ← HBb6x.out, ← HBb7x.out, if_neg (by simp)]
            simp only [HWH.out]
            rw [if_neg (by simp), if_neg hdep])
          have hz9 := hb9.size
          have hbf := HBw8.out.trans (hb9.mono (by omega))
          have hfin : ∃ v B' O' W' T', Ending.returned (.tuple #[.slice none 0 0, .int .i64 10]) = .returned (.tuple #[v, .int .i64 (takeD ⟨O.map E3.ent, W.map E3.ent⟩ o).2.2]) ∧
              O'.map E3.ent = (takeD ⟨O.map E3.ent, W.map E3.ent⟩ o).1.ops ∧ W'.map E3.ent = (takeD ⟨O.map E3.ent, W.map E3.ent⟩ o).1.wait ∧
              DagSet w9 b mo mw mt B' O' W' T' ∧ (∀ i, B' i → (B i ∨ w.heap.size ≤ i) ∧ i < w9.heap.size) ∧ Owns w9 w.heap.size 31 32 v (takeD ⟨O.map E3.ent, W.map E3.ent⟩ o).2.1.length (pcs (takeD ⟨O.map E3.ent, W.map E3.ent⟩ o).2.1) ∧ Keeps (threeB mo mw mt) w w9 := by
            rw [HTK.out]
            exact ⟨_, B, O, W, T, rfl, rfl, rfl, HH.out.under hbf, fun i hi => ⟨.inl hi, by have := HBL.out i hi; omega⟩, Owns.nil _ _ _ _, Keeps.of_below hbf⟩
          have HFIN := Lib.hid hfin
          clear hfin hbf hb9 hdep HPUT
          go_wp2
          refine NoPanic.normal ?_
          go_wp2
          refine bodyPost_ret (results_tmp2 rfl _ _ _) rfl ?_
          exact HFIN.out
  · have hgb : decide o.Good = false := by simpa using hg
    have HTK := Lib.hid (show takeD ⟨O.map E3.ent, W.map E3.ent⟩ o = (⟨O.map E3.ent, W.map E3.ent⟩, [], 1) by
      unfold takeD
      rw [if_neg hg])
    go_wp2_with (first
      | (refine wpList_loadAgg _ rfl 46 _ rfl _ Tryz.underlying46 rfl w.heap.size 0 (by rfl) (o.cs p c) (by rw [opInfo, HC.out]) HAC1.out ?_)
      | (go_at_call 57; refine (opgood_any o HD.out p c w1 (HS.out.below HBw1.out (Nat.le_refl _))).mono ?_; rintro e w2 ⟨rfl, hb2⟩))
    refine bodyPost_ret (results_tmp2 rfl _ _ _) rfl ?_
    have hb := HBw1.out.trans (hb2.mono (by omega))
    rw [HTK.out]
    exact ⟨_, B, O, W, T, rfl, rfl, rfl, HH.out.under hb, fun i hi => ⟨.inl hi, by have := HBL.out i hi; have := hb.size; omega⟩, Owns.nil _ _ _ _, Keeps.of_below hb⟩
end Go.Proofs.YtfoifdhcelcgiaaGreatDoor
