/-
  The name of an operation, by the document. The set by the document: what is there; Rising.
-/
import Derived.Test.YtfoifdhcelcgiaaGreatDoorJc
import Derived.Test.YtfoifdhcelcgiaaGreatDoorRefOf
import Derived.Test.YtfoifdhcelcgiaaGreatDoorJh
/- tribunalref02.Sum, and an operation's name by the document. -/
namespace Go.Proofs.YtfoifdhcelcgiaaGreatDoor
open Go Go.RowKit

set_option maxRecDepth 100000 in
set_option maxHeartbeats 4000000 in
theorem rsum_any (a : List UInt8) (p : Option Addr) (cap : Nat) (l : List (List UInt8)) (w : World) (hT : Tabs w) (hs : SrcAt w p (scs l)) (hB : ∀ b off, p = some ⟨b, off, none⟩ → b < w.heap.size) (hA : ∀ a, p = some a → a.spot = none) (ha : a.length ≤ 64) (hn : l.length ≤ 1099511627) (hb : bytesOf l ≤ 1099511627) :
    Calls Tryz.prog 45 #[txt a, .slice p l.length cap] w fun e w' => e = .returned (.agg (bcs (sumB a l)).toArray) ∧ Below w.heap.size w w' := by
  obtain ⟨i0, hi, hz0, hz1, hz2⟩ := info_parts strInfo
  obtain ⟨hz, hid⟩ := info_two idInfo
  obtain ⟨k1, k2, k3⟩ := listB_small ha hn hb
  obtain ⟨L, hL⟩ : ∃ L, L = a :: l := ⟨_, rfl⟩
  rw [← hL] at k1 k2 k3
  have hlen : 1 + l.length = L.length := by rw [hL, List.length_cons]; omega
  have HL := Lib.hid hL
  clear hL
  have HZ := Lib.hid hz
  have HI := Lib.hid hid
  have H1 := Lib.hid hs
  have H2 := Lib.hid hB
  have H3 := Lib.hid hT
  have HA := Lib.hid hA
  clear hz hid hs hB hT hA
  have S1 := Lib.hid (show SrcAt ((w.alloc (.cells (fillB [] 32) 31)).alloc (.cells #[txt a] 9)) p (scs l) from
    (H1.out.below H2.out ((Below.refl _ w).alloc (Nat.le_refl _) _)).below (fun b off e => Nat.lt_succ_of_lt (H2.out b off e)) ((Below.refl (w.heap.size + 1) _).alloc (by simp) _))
  have O1 := Lib.hid (show Owns ((w.alloc (.cells (fillB [] 32) 31)).alloc (.cells #[txt a] 9)) (w.heap.size + 1) 9 1 (.slice (some ⟨w.heap.size + 1, 0, none⟩) 1 1) 1 [txt a] by
    have := owns_one (w.alloc (.cells (fillB [] 32) 31)) 9 (txt a)
    simpa using this)
  go_enter Tryz.func45, Tryz.ntmps45
  go_wp2_with (first
    | (refine wpList_allocZ _ rfl 31 rfl _ HZ.out ?_)
    | (refine wpList_append_G rfl _ _ 51 rfl (w.heap.size + 1) 9 i0 _ 1 16 Tryz.underlying51 hi hz0 hz1 hz2 (by rfl) (by omega) _ 1 [txt a] (by rfl) O1.out p l.length cap (scs l) (by rfl) (by rw [scs_length, Nat.mul_one]) S1.out HA.out (scs_one l) (by unfold maxLen; omega) (by omega) (by simp) ?_; intro v2 w2 hv2 hg2 hs2; rw [hlen] at hv2; obtain ⟨q, c2, rfl⟩ := hv2.form)
    )
  have hb2 : Below w.heap.size w w2 := below_grown (((Below.refl _ w).alloc (Nat.le_refl _) _).alloc (by simp) _) hg2 (O1.out.down (by omega)) (by simp; omega)
  have hz2' := hb2.size
  have hgz := hg2.size
  simp only [World.size_alloc] at hgz
  have hd2 : w2.heap[w.heap.size]? = some (.cells (fillB [] 32) 31 (0, 0)) :=
    (hg2.block _ (by simp; omega) (fun e => by have : w.heap.size = w.heap.size + 1 := Option.some.inj e; omega)).trans (((MapKept.heap_alloc _ _).2 _ (by simp)).trans (MapKept.heap_alloc _ _).1)
  have hsrc : SrcAt w2 q (scs L) := by
    have := hv2.src
    rw [HL.out]
    exact this
  have hQ : ∀ b off, q = some ⟨b, off, none⟩ → w.heap.size ≤ b ∧ b < w2.heap.size := fun b off e => ⟨by have := (hv2.at e).1; omega, (hv2.at e).2.1⟩
  refine (rlist_any q c2 L w2 hsrc (fun b off e => (hQ b off e).2) (by omega) (by omega)).mono ?_
  rintro e w3 ⟨rfl, hb3⟩
  have hT3 : Tabs w3 := (H3.out.of_below hb2 H3.out.2.2).of_below (hb3.mono hz2') H3.out.2.2
  obtain ⟨LL, hLL⟩ : ∃ LL, LL = listB L := ⟨_, rfl⟩
  rw [← hLL]
  have T1 := Lib.hid (hb2.trans (hb3.mono hz2'))
  have T2 := Lib.hid hLL
  have T3 := Lib.hid hT3
  have k4 : LL.length ≤ 17592186044416 := by rw [hLL]; exact k3
  have T4 := Lib.hid ((hb3.block _ (by omega)).trans hd2)
  have hz3 := hb3.size
  clear hb2 hb3 hLL hT3 hd2 hsrc hQ hv2 hg2 hs2
  go_wp2_with fail
  refine (rof_any LL w3 (by omega)).mono ?_
  rintro e w4 ⟨rfl, hb4⟩
  have T5 := Lib.hid (T1.out.trans (hb4.mono (by omega)))
  have T6 := Lib.hid ((hb4.block _ (by omega)).trans T4.out)
  obtain ⟨DD, hDD⟩ : ∃ DD, DD = shaB LL := ⟨_, rfl⟩
  rw [← hDD]
  have hd32 : (bcs DD).length = 32 := by rw [hDD, bcs_length, length_shaB]
  have T7 := Lib.hid hd32
  have T8 := Lib.hid hDD
  clear hDD hb4 hd32
  go_wp2_with (first
    | (refine wpList_storeRow rfl 31 _ _ rfl T6.out (by rfl) (bcs DD).toArray (by rfl) (by rw [HI.out, List.size_toArray, T7.out]) (by show 32 = (bcs DD).length; exact T7.out.symm) (by simpa using bcs_one DD) ?_; intro w6 hw6 hg6 hs6))
  have hcf : cellsAt w6 w.heap.size 0 (bcs DD) := fun j u hj => by rw [cell_of_row _ _ _ _ _ _ hw6, Nat.zero_add]; simpa using hj
  have hbf : Below w.heap.size w w6 := T5.out.grown hg6 (by have := T5.out.size; omega) (fun k e => by have := Option.some.inj e; omega)
  have hfin : DD = sumB a l := by rw [T8.out, T2.out, HL.out]; rfl
  refine bodyPost_ret (results_cell rfl (by rfl) (run_loadAgg Tryz.underlying31 rfl (by rw [HI.out, T7.out]) hcf)) rfl ⟨by rw [hfin], hbf⟩

set_option maxRecDepth 100000 in
set_option maxHeartbeats 8000000 in
theorem ropname_any (o : OpV) (ho : o.Ok) (p : Option Addr) (c : Nat) (w : World) (hT : Tabs w) (hs : Src w p (pcs o.preds)) :
    Calls Tryz.prog 17 #[.agg (o.cs p c).toArray] w fun e w' => e = .returned (.agg (bcs (nameB o)).toArray) ∧ Below w.heap.size w w' := by
  obtain ⟨hz, hid⟩ := info_two idInfo
  have HZ := Lib.hid hz
  have HI := Lib.hid hid
  have HD := Lib.hid ho
  have HS := Lib.hid hs
  have HT := Lib.hid hT
  have HC := Lib.hid (OpV.cs_length ho p c)
  have hat : cellsAt (w.alloc (.cells (o.cs p c).toArray 46)) w.heap.size 0 (o.cs p c) := by simpa using cellsAt_new w (o.cs p c).toArray 46
  obtain ⟨w1, hw1⟩ : ∃ w1, w1 = (w.alloc (.cells (o.cs p c).toArray 46)).alloc (.cells (fillB [] 32) 31) := ⟨_, rfl⟩
  have hb1 : Below w.heap.size w w1 := by rw [hw1]; exact ((Below.refl _ w).alloc (Nat.le_refl _) _).alloc (by simp) _
  have hd1 : w1.heap[w.heap.size + 1]? = some (.cells (fillB [] 32) 31 (0, 0)) := by rw [hw1]; exact heap_alloc2 _ _ _
  have ha1 : cellsAt w1 w.heap.size 0 (o.cs p c) := hat.of_block (by rw [hw1]; exact (MapKept.heap_alloc _ _).2 _ (by simp))
  have hz1 : w1.heap.size = w.heap.size + 2 := by rw [hw1]; simp
  have HA := Lib.hid ha1
  have HB := Lib.hid hb1
  have HDD := Lib.hid hd1
  clear ho hs hT hat hb1 hd1 ha1 hz hid
  go_enter Tryz.func17, Tryz.ntmps17
  go_upto_region 1 with (first
    | (refine wpList_boxAgg _ rfl 46 _ rfl (o.cs p c).toArray (by rfl) ?_)
    | (refine wpList_allocZ _ rfl 31 rfl _ HZ.out ?_))
  rw [show (w.alloc (.cells (o.cs p c).toArray 46)).alloc (.cells (Value.agg (fillB [] 32)).cells 31) = w1 from hw1.symm]
  clear hw1
  go_wp2_with (first
    | (refine wpList_loadAgg _ rfl 46 _ rfl _ Tryz.underlying46 rfl w.heap.size 0 (by rfl) (o.cs p c) (by rw [opInfo, HC.out]) HA.out ?_))
  refine (roptext_any o HD.out p c w1 (HS.out.below HB.out (Nat.le_refl _))).mono ?_
  rintro e w2 ⟨rfl, hb2⟩
  have hz2 := hb2.size
  obtain ⟨T, hT⟩ : ∃ T, T = o.text := ⟨_, rfl⟩
  rw [← hT]
  have hTl : T.length ≤ 40000000 := by rw [hT]; exact OpV.text_len HD.out
  obtain ⟨w3, hw3⟩ : ∃ w3, w3 = w2.alloc (.cells #[txt T] 9) := ⟨_, rfl⟩
  have hb3 : Below w.heap.size w w3 := by rw [hw3]; exact (HB.out.trans (hb2.mono (by omega))).alloc (by omega) _
  have hs3 : SrcAt w3 (some ⟨w2.heap.size, 0, none⟩) (scs [T]) := by rw [hw3]; exact src_new w2 (scs [T]) 9
  have hd3 : w3.heap[w.heap.size + 1]? = some (.cells (fillB [] 32) 31 (0, 0)) := by
    rw [hw3]
    exact ((MapKept.heap_alloc _ _).2 _ (by omega)).trans ((hb2.block _ (by omega)).trans HDD.out)
  have hz3 : w3.heap.size = w2.heap.size + 1 := by rw [hw3]; simp
  have HTX := Lib.hid hT
  have HB3 := Lib.hid hb3
  have HS3 := Lib.hid hs3
  have HD3 := Lib.hid hd3
  have HW3 := Lib.hid hw3
  clear hb3 hs3 hd3 hT hw3 hb2
  go_wp2_with fail
  rw [← HW3.out]
  refine (rsum_any [111, 112] (some ⟨w2.heap.size, 0, none⟩) 1 [T] w3 (HT.out.of_below HB3.out HT.out.2.2) HS3.out (fun b off e => by cases e; omega) (fun a e => by cases e; rfl) (by simp) (by simp) (by simp [bytesOf]; omega)).mono ?_
  rintro e w4 ⟨rfl, hb4⟩
  have hz4 := hb4.size
  obtain ⟨D, hD⟩ : ∃ D, D = sumB [111, 112] [T] := ⟨_, rfl⟩
  rw [← hD]
  have T7 := Lib.hid (show (bcs D).length = 32 by rw [hD, bcs_length, length_sumB])
  have T6 := Lib.hid ((hb4.block _ (by omega)).trans HD3.out)
  have T5 := Lib.hid (HB3.out.trans (hb4.mono (by omega)))
  have HDX := Lib.hid hD
  clear hD hb4
  go_wp2_with (first
    | (refine wpList_storeRow rfl 31 _ _ rfl T6.out (by rfl) (bcs D).toArray (by rfl) (by rw [HI.out, List.size_toArray, T7.out]) (by show 32 = (bcs D).length; exact T7.out.symm) (by simpa using bcs_one D) ?_; intro w6 hw6 hg6 hs6))
  have hcf : cellsAt w6 (w.heap.size + 1) 0 (bcs D) := fun j u hj => by rw [cell_of_row _ _ _ _ _ _ hw6, Nat.zero_add]; simpa using hj
  have hbf : Below w.heap.size w w6 := T5.out.grown hg6 (by have := T5.out.size; omega) (fun k e => by have := Option.some.inj e; omega)
  have hfin : D = nameB o := by rw [HDX.out, HTX.out]; rfl
  refine bodyPost_ret (results_cell rfl (by rfl) (run_loadAgg Tryz.underlying31 rfl (by rw [HI.out, T7.out]) hcf)) rfl ⟨by rw [hfin], hbf⟩
end Go.Proofs.YtfoifdhcelcgiaaGreatDoor

/- tribunalref10.Set as it lies: four rows; is a name among others, at which place? -/
namespace Go.Proofs.YtfoifdhcelcgiaaGreatDoor
open Go Go.RowKit

def ocs (O : List E3) : List Value := O.flatMap E3.cs
def ncs (O : List E3) : List Value := pcs (O.map (·.n))

/-- a set by the document: F are the blocks that it writes, B those of the rows of predecessors -/
structure RefSet (w : World) (b : Nat) (vo vw vn vm : Value) (F B : Nat → Prop) (O W : List E3) : Prop where
  box : w.heap[b]? = some (.cells #[vo, vw, vn, vm] 37 (0, 0))
  ops : Owns w 0 46 38 vo O.length (ocs O)
  wait : Owns w 0 46 38 vw W.length (ocs W)
  names : Owns w 0 31 32 vn O.length (ncs O)
  waits : Owns w 0 31 32 vm W.length (ncs W)
  okO : ∀ e ∈ O, e.Ok w B
  okW : ∀ e ∈ W, e.Ok w B
  fb : F b
  fo : ∀ g, vo.ownBlock = some g → F g
  fw : ∀ g, vw.ownBlock = some g → F g
  fn : ∀ g, vn.ownBlock = some g → F g
  fm : ∀ g, vm.ownBlock = some g → F g
  apart : ∀ i, F i → ¬ B i
  flt : ∀ i, F i → i < w.heap.size
  blt : ∀ i, B i → i < w.heap.size
  ow : ∀ g, vo.ownBlock = some g → vw.ownBlock ≠ some g
  nm : ∀ g, vn.ownBlock = some g → vm.ownBlock ≠ some g

section
variable {w w' : World} {b : Nat} {vo vw vn vm : Value} {F B : Nat → Prop} {O W : List E3}
theorem RefSet.keeps (h : RefSet w b vo vw vn vm F B O W) (hs : w.heap.size ≤ w'.heap.size) (hb : ∀ i, i < w.heap.size → F i ∨ B i → w'.heap[i]? = w.heap[i]?) : RefSet w' b vo vw vn vm F B O W :=
  ⟨(hb b (h.flt b h.fb) (.inl h.fb)).trans h.box, h.ops.keep (fun g hg => hb g (h.ops.lt hg).2 (.inl (h.fo g hg))), h.wait.keep (fun g hg => hb g (h.wait.lt hg).2 (.inl (h.fw g hg))),
    h.names.keep (fun g hg => hb g (h.names.lt hg).2 (.inl (h.fn g hg))), h.waits.keep (fun g hg => hb g (h.waits.lt hg).2 (.inl (h.fm g hg))),
    fun e he => (h.okO e he).keeps hs (fun i hi hB => hb i hi (.inr hB)), fun e he => (h.okW e he).keeps hs (fun i hi hB => hb i hi (.inr hB)),
    h.fb, h.fo, h.fw, h.fn, h.fm, h.apart, fun i hi => Nat.lt_of_lt_of_le (h.flt i hi) hs, fun i hi => Nat.lt_of_lt_of_le (h.blt i hi) hs, h.ow, h.nm⟩
theorem RefSet.under (h : RefSet w b vo vw vn vm F B O W) (hb : Below w.heap.size w w') : RefSet w' b vo vw vn vm F B O W := h.keeps hb.size (fun i hi _ => hb.block i hi)
theorem RefSet.below {N : Nat} (h : RefSet w b vo vw vn vm F B O W) (hb : Below N w w') (hN : w.heap.size ≤ N) : RefSet w' b vo vw vn vm F B O W := h.keeps hb.size (fun i hi _ => hb.block i (by omega))
theorem RefSet.lt (h : RefSet w b vo vw vn vm F B O W) : b < w.heap.size := h.flt b h.fb
theorem RefSet.c0 (h : RefSet w b vo vw vn vm F B O W) : w.cell? ⟨b, 0, none⟩ = some vo := by simp [World.cell?, h.box]
theorem RefSet.c1 (h : RefSet w b vo vw vn vm F B O W) : w.cell? ⟨b, 1, none⟩ = some vw := by simp [World.cell?, h.box]
theorem RefSet.c2 (h : RefSet w b vo vw vn vm F B O W) : w.cell? ⟨b, 2, none⟩ = some vn := by simp [World.cell?, h.box]
theorem RefSet.c3 (h : RefSet w b vo vw vn vm F B O W) : w.cell? ⟨b, 3, none⟩ = some vm := by simp [World.cell?, h.box]
theorem RefSet.n32 (h : RefSet w b vo vw vn vm F B O W) : ∀ x ∈ O.map (·.n), x.length = 32 := fun x hx => by
  obtain ⟨e, he, rfl⟩ := List.mem_map.1 hx
  exact (h.okO e he).len
theorem RefSet.m32 (h : RefSet w b vo vw vn vm F B O W) : ∀ x ∈ W.map (·.n), x.length = 32 := fun x hx => by
  obtain ⟨e, he, rfl⟩ := List.mem_map.1 hx
  exact (h.okW e he).len
end
theorem Owns.srcOf {w : World} {base : Nat} {t : TypeId} {size n cap : Nat} {p : Option Addr} {xs : List Value} (h : Owns w base t size (.slice p n cap) n xs) : Src w p xs := ⟨h.src⟩

theorem ocs_at : ∀ {O : List E3} (_ : ∀ e ∈ O, e.cs.length = 38) {n j : Nat} {e : E3} {u : Value}, O[n]? = some e → e.cs[j]? = some u → (ocs O)[38 * n + j]? = some u
  | [], _, n, _, _, _, h, _ => by simp at h
  | a :: r, h, 0, j, e, u, hx, hu => by
    simp at hx
    subst hx
    simp only [ocs, List.flatMap_cons, Nat.mul_zero, Nat.zero_add]
    rw [List.getElem?_append_left (List.getElem?_eq_some_iff.1 hu).1]
    exact hu
  | a :: r, h, n + 1, j, e, u, hx, hu => by
    simp at hx
    have h1 := h a (by simp)
    have h2 := ocs_at (fun e he => h e (by simp [he])) hx hu
    simp only [ocs, List.flatMap_cons] at h2 ⊢
    rw [List.getElem?_append_right (by omega), h1, show 38 * (n + 1) + j - 38 = 38 * n + j by omega]
    exact h2

/-- the place of a name among others; -1: none -/
def atI (X : List Nm) (n : Nm) : Int := match X.findIdx? (fun x => decide (x = n)) with | some i => (i : Int) | none => -1
theorem atI_neg {X : List Nm} {n : Nm} : atI X n < 0 ↔ n ∉ X := by
  unfold atI
  cases h : X.findIdx? (fun x => decide (x = n)) with
  | none =>
    have := List.findIdx?_eq_none_iff.1 h
    simp at this
    simp
    exact fun hm => this n hm rfl
  | some i =>
    obtain ⟨hi, h2, _⟩ := List.findIdx?_eq_some_iff_getElem.1 h
    simp only [decide_eq_true_eq] at h2
    constructor
    · intro h3; have h3' : (i : Int) < 0 := h3; omega
    · intro h3; exact absurd (h2 ▸ List.getElem_mem hi) h3
theorem atI_some {X : List Nm} {n : Nm} {k : Nat} (hk : X[k]? = some n) (hb : ∀ j, j < k → X[j]? ≠ some n) : atI X n = k := by
  obtain ⟨hkl, hkn⟩ := List.getElem?_eq_some_iff.1 hk
  have : X.findIdx? (fun x => decide (x = n)) = some k := List.findIdx?_eq_some_iff_getElem.2 ⟨hkl, by simp [hkn], fun j hj => by
    have := hb j hj
    have hjl : j < X.length := by omega
    simp only [decide_eq_true_eq]
    intro e
    exact this (by rw [List.getElem?_eq_getElem hjl, e])⟩
  unfold atI
  rw [this]
theorem atI_none {X : List Nm} {n : Nm} (hb : ∀ j, j < X.length → X[j]? ≠ some n) : atI X n = -1 := by
  have : X.findIdx? (fun x => decide (x = n)) = none := List.findIdx?_eq_none_iff.2 fun x hx => by
    obtain ⟨j, hj⟩ := List.mem_iff_getElem?.1 hx
    have h1 := (List.getElem?_eq_some_iff.1 hj).1
    simp only [decide_eq_false_iff_not]
    intro e
    exact hb j h1 (by rw [hj, e])
  unfold atI
  rw [this]
theorem atI_get {X : List Nm} {n : Nm} (h : n ∈ X) : ∃ k : Nat, atI X n = (k : Int) ∧ k < X.length ∧ X[k]? = some n ∧ ∀ j : Nat, j < k → X[j]? ≠ some n := by
  cases hf : X.findIdx? (fun x => decide (x = n)) with
  | none =>
    have := List.findIdx?_eq_none_iff.1 hf
    simp at this
    exact absurd rfl (this n h)
  | some i =>
    obtain ⟨hi, h2, h3⟩ := List.findIdx?_eq_some_iff_getElem.1 hf
    simp only [decide_eq_true_eq] at h2
    refine ⟨i, by unfold atI; rw [hf], hi, by rw [List.getElem?_eq_getElem hi, h2], fun j hj e => ?_⟩
    have := h3 j hj
    have hjl : j < X.length := by omega
    rw [List.getElem?_eq_getElem hjl] at e
    simp [Option.some.inj e] at this

set_option maxRecDepth 100000 in
set_option maxHeartbeats 4000000 in
theorem at_any (b : Nat) (vo vw vn vm : Value) (F B : Nat → Prop) (O W : List E3) (nm : Nm) (hnm : nm.length = 32) (w : World) (h : RefSet w b vo vw vn vm F B O W) (hL : O.length ≤ 1000000000) :
    Calls Tryz.prog 13 #[.pointer (some ⟨b, 0, none⟩), idv nm] w fun e w' => e = .returned (.int .i64 (atI (O.map (·.n)) nm)) ∧ Below w.heap.size w w' := by
  obtain ⟨hz, hid⟩ := info_two idInfo
  have HZ := Lib.hid hz
  have HI := Lib.hid hid
  have HNM := Lib.hid hnm
  have HX32 := Lib.hid h.n32
  obtain ⟨p, cap, hv⟩ := h.names.form
  subst hv
  have HH := Lib.hid h
  obtain ⟨X, hX⟩ : ∃ X, X = O.map (·.n) := ⟨_, rfl⟩
  have hLX : O.length = X.length := by rw [hX]; simp
  have HS : Hid (Src w p (pcs X)) := Lib.hid (by rw [hX]; exact h.names.srcOf)
  rw [← hX] at HX32 ⊢
  have hXl : X.length ≤ 1000000000 := by rw [← hLX]; exact hL
  clear h
  obtain ⟨w1, hw1⟩ : ∃ w1, w1 = w.alloc (.cells (bcs nm).toArray 31) := ⟨_, rfl⟩
  have hb1 : Below w.heap.size w w1 := by rw [hw1]; exact (Below.refl _ w).alloc (Nat.le_refl _) _
  have HA := Lib.hid (show cellsAt w1 w.heap.size 0 (bcs nm) by rw [hw1]; simpa using cellsAt_new w (bcs nm).toArray 31)
  have hlt : w.heap.size < w1.heap.size := by rw [hw1]; simp
  have HB1 := Lib.hid hb1
  have HS1 := Lib.hid (HS.out.below hb1 (Nat.le_refl _))
  have hc := (HH.out.under hb1).c2
  rw [hLX] at hc
  clear hLX hX
  clear hb1 hz hid hnm
  go_enter Tryz.func13, Tryz.ntmps13
  go_upto_region 1 with (first | (refine wpList_boxAgg _ rfl 31 _ rfl (bcs nm).toArray (by rfl) ?_))
  rw [← hw1]
  clear hw1
  go_wp2_with fail
  try clear hc
  go_loopw [12] (fun i wr => ∃ n : Nat, n ≤ X.length ∧ i = .int .i64 n ∧ Hid (∀ j, j < n → X[j]? ≠ some nm) ∧ Hid (Below w1.heap.size w1 wr)) (fun i _ => X.length - (intOf i).toNat)
  case atStart => exact ⟨0, by omega, rfl, Lib.hid (fun j hj => absurd hj (by omega)), Lib.hid (Below.refl _ _)⟩
  case round =>
    obtain ⟨n, hn1, rfl, hno, hbr⟩ := hrel
    have hszr := hbr.out.size
    have HAr := Lib.hid (HA.out.of_block (hbr.out.block _ hlt))
    by_cases hlt2 : n < X.length
    · obtain ⟨x, g, off, hx1, hx2, hx3, rfl, hx4⟩ := pred_at HS1.out.at_ HX32.out hlt2
      have hg := bcs_at_lt hx4 hx3
      have HX1 := Lib.hid hx1
      have HXc := Lib.hid (show cellsAt wr g (off + n * 32) (bcs x) from hx4.of_block (hbr.out.block _ hg))
      have HX3 := Lib.hid hx3
      have HZX := Lib.hid (show (fillB [] 32).size = (bcs x).toArray.size by rw [show (bcs x).toArray.size = (bcs x).length from rfl, bcs_length, hx3]; rfl)
      have HAw := Lib.hid (show cellsAt (wr.alloc (.cells (bcs x).toArray 31)) w.heap.size 0 (bcs nm) from HAr.out.of_block ((MapKept.heap_alloc _ _).2 _ (by omega)))
      have HXw := Lib.hid (show cellsAt (wr.alloc (.cells (bcs x).toArray 31)) wr.heap.size 0 (bcs x) by simpa using cellsAt_new wr (bcs x).toArray 31)
      have HBw := Lib.hid (hbr.out.alloc hszr (.cells (bcs x).toArray 31))
      clear hx1 hx2 hx3 hx4
      go_upto_if 19 with (first
          | (refine wpList_loadAgg _ rfl 31 _ rfl _ Tryz.underlying31 rfl g (off + n * 32) (by rfl) (bcs x) (by rw [HI.out, bcs_length, HX3.out]) HXc.out ?_)
          | (refine wpList_allocZ _ rfl 31 rfl _ HZ.out ?_)
          | (refine wpList_storeNew _ wr rfl 31 _ _ rfl (fillB [] 32) rfl (by rfl) (bcs x).toArray (by rfl) (by rw [HI.out, List.size_toArray, bcs_length, HX3.out]) HZX.out (by simpa using bcs_one x) ?_)
          | (refine wpList_loadAgg _ rfl 31 _ rfl _ Tryz.underlying31 rfl wr.heap.size 0 (by rfl) (bcs x) (by rw [HI.out, bcs_length, HX3.out]) HXw.out ?_)
          | (refine wpList_loadAgg _ rfl 31 _ rfl _ Tryz.underlying31 rfl w.heap.size 0 (by rfl) (bcs nm) (by rw [HI.out, bcs_length, HNM.out]) HAw.out ?_)
          | (refine wpList_eqId rfl _ _ _ rfl x nm (by rfl) (by rfl) HX3.out HNM.out ?_))
      by_cases heq : x = nm
      · rw [show decide (x = nm) = true from decide_eq_true heq]
        have HEQ := Lib.hid heq
        clear heq
        go_wp2
        go_ret
        refine ⟨?_, HB1.out.trans (HBw.out.mono (Nat.le_of_lt hlt))⟩
        rw [show Value.int .i64 (atI X nm) = Value.int .i64 (n : Int) from by rw [atI_some (k := n) (by rw [← HEQ.out]; exact HX1.out) hno.out]]
        rfl
      · rw [show decide (x = nm) = false from decide_eq_false heq]
        have HEQ := Lib.hid heq
        clear heq
        go_wp2
        go_roundw
        case rel =>
          refine ⟨n + 1, by omega, by go_num, Lib.hid ?_, HBw⟩
          intro j hj e
          rcases Nat.lt_or_eq_of_le (Nat.le_of_lt_succ hj) with h1 | h1
          · exact hno.out j h1 e
          · subst h1
            rw [HX1.out] at e
            exact HEQ.out (Option.some.inj e)
        case measure => simp [intOf] <;> omega
    · obtain rfl : n = X.length := by omega
      go_wp2
      go_ret
      refine ⟨?_, HB1.out.trans (hbr.out.mono (by omega))⟩
      rw [show Value.int .i64 (atI X nm) = Value.int .i64 (-1) from by rw [atI_none (fun j hj => hno.out j hj)]]
      rfl

set_option maxRecDepth 100000 in
set_option maxHeartbeats 4000000 in
theorem waiting_any (b : Nat) (vo vw vn vm : Value) (F B : Nat → Prop) (O W : List E3) (nm : Nm) (hnm : nm.length = 32) (w : World) (h : RefSet w b vo vw vn vm F B O W) (hL : W.length ≤ 1000000000) :
    Calls Tryz.prog 66 #[.pointer (some ⟨b, 0, none⟩), idv nm] w fun e w' => e = .returned (.bool (decide (nm ∈ W.map (·.n)))) ∧ Below w.heap.size w w' := by
  obtain ⟨hz, hid⟩ := info_two idInfo
  have HZ := Lib.hid hz
  have HI := Lib.hid hid
  have HNM := Lib.hid hnm
  have HX32 := Lib.hid h.m32
  obtain ⟨p, cap, hv⟩ := h.waits.form
  subst hv
  have HH := Lib.hid h
  obtain ⟨X, hX⟩ : ∃ X, X = W.map (·.n) := ⟨_, rfl⟩
  have hLX : W.length = X.length := by rw [hX]; simp
  have HS : Hid (Src w p (pcs X)) := Lib.hid (by rw [hX]; exact h.waits.srcOf)
  rw [← hX] at HX32 ⊢
  have hXl : X.length ≤ 1000000000 := by rw [← hLX]; exact hL
  clear h
  obtain ⟨w1, hw1⟩ : ∃ w1, w1 = w.alloc (.cells (bcs nm).toArray 31) := ⟨_, rfl⟩
  have hb1 : Below w.heap.size w w1 := by rw [hw1]; exact (Below.refl _ w).alloc (Nat.le_refl _) _
  have HA := Lib.hid (show cellsAt w1 w.heap.size 0 (bcs nm) by rw [hw1]; simpa using cellsAt_new w (bcs nm).toArray 31)
  have hlt : w.heap.size < w1.heap.size := by rw [hw1]; simp
  have HB1 := Lib.hid hb1
  have HS1 := Lib.hid (HS.out.below hb1 (Nat.le_refl _))
  have hc := (HH.out.under hb1).c3
  rw [hLX] at hc
  clear hLX hX
  clear hb1 hz hid hnm
  go_enter Tryz.func66, Tryz.ntmps66
  go_upto_region 1 with (first | (refine wpList_boxAgg _ rfl 31 _ rfl (bcs nm).toArray (by rfl) ?_))
  rw [← hw1]
  clear hw1
  go_wp2_with fail
  try clear hc
  go_loopw [12] (fun i wr => ∃ n : Nat, n ≤ X.length ∧ i = .int .i64 n ∧ Hid (∀ j, j < n → X[j]? ≠ some nm) ∧ Hid (Below w1.heap.size w1 wr)) (fun i _ => X.length - (intOf i).toNat)
  case atStart => exact ⟨0, by omega, rfl, Lib.hid (fun j hj => absurd hj (by omega)), Lib.hid (Below.refl _ _)⟩
  case round =>
    obtain ⟨n, hn1, rfl, hno, hbr⟩ := hrel
    have hszr := hbr.out.size
    have HAr := Lib.hid (HA.out.of_block (hbr.out.block _ hlt))
    by_cases hlt2 : n < X.length
    · obtain ⟨x, g, off, hx1, hx2, hx3, rfl, hx4⟩ := pred_at HS1.out.at_ HX32.out hlt2
      have hg := bcs_at_lt hx4 hx3
      have HX1 := Lib.hid hx1
      have HXc := Lib.hid (show cellsAt wr g (off + n * 32) (bcs x) from hx4.of_block (hbr.out.block _ hg))
      have HX3 := Lib.hid hx3
      have HZX := Lib.hid (show (fillB [] 32).size = (bcs x).toArray.size by rw [show (bcs x).toArray.size = (bcs x).length from rfl, bcs_length, hx3]; rfl)
      have HAw := Lib.hid (show cellsAt (wr.alloc (.cells (bcs x).toArray 31)) w.heap.size 0 (bcs nm) from HAr.out.of_block ((MapKept.heap_alloc _ _).2 _ (by omega)))
      have HXw := Lib.hid (show cellsAt (wr.alloc (.cells (bcs x).toArray 31)) wr.heap.size 0 (bcs x) by simpa using cellsAt_new wr (bcs x).toArray 31)
      have HBw := Lib.hid (hbr.out.alloc hszr (.cells (bcs x).toArray 31))
      clear hx1 hx2 hx3 hx4
      go_upto_if 18 with (first
          | (refine wpList_loadAgg _ rfl 31 _ rfl _ Tryz.underlying31 rfl g (off + n * 32) (by rfl) (bcs x) (by rw [HI.out, bcs_length, HX3.out]) HXc.out ?_)
          | (refine wpList_allocZ _ rfl 31 rfl _ HZ.out ?_)
          | (refine wpList_storeNew _ wr rfl 31 _ _ rfl (fillB [] 32) rfl (by rfl) (bcs x).toArray (by rfl) (by rw [HI.out, List.size_toArray, bcs_length, HX3.out]) HZX.out (by simpa using bcs_one x) ?_)
          | (refine wpList_loadAgg _ rfl 31 _ rfl _ Tryz.underlying31 rfl wr.heap.size 0 (by rfl) (bcs x) (by rw [HI.out, bcs_length, HX3.out]) HXw.out ?_)
          | (refine wpList_loadAgg _ rfl 31 _ rfl _ Tryz.underlying31 rfl w.heap.size 0 (by rfl) (bcs nm) (by rw [HI.out, bcs_length, HNM.out]) HAw.out ?_)
          | (refine wpList_eqId rfl _ _ _ rfl x nm (by rfl) (by rfl) HX3.out HNM.out ?_))
      by_cases heq : x = nm
      · rw [show decide (x = nm) = true from decide_eq_true heq]
        have HEQ := Lib.hid heq
        clear heq
        go_wp2
        go_ret
        refine ⟨?_, HB1.out.trans (HBw.out.mono (Nat.le_of_lt hlt))⟩
        rw [show Value.bool (decide (nm ∈ X)) = Value.bool true from by rw [decide_eq_true (List.mem_of_getElem? (by rw [← HEQ.out]; exact HX1.out) : nm ∈ X)]]
        rfl
      · rw [show decide (x = nm) = false from decide_eq_false heq]
        have HEQ := Lib.hid heq
        clear heq
        go_wp2
        go_roundw
        case rel =>
          refine ⟨n + 1, by omega, by go_num, Lib.hid ?_, HBw⟩
          intro j hj e
          rcases Nat.lt_or_eq_of_le (Nat.le_of_lt_succ hj) with h1 | h1
          · exact hno.out j h1 e
          · subst h1
            rw [HX1.out] at e
            exact HEQ.out (Option.some.inj e)
        case measure => simp [intOf] <;> omega
    · obtain rfl : n = X.length := by omega
      go_wp2
      go_ret
      refine ⟨?_, HB1.out.trans (hbr.out.mono (by omega))⟩
      rw [show Value.bool (decide (nm ∈ X)) = Value.bool false from by rw [decide_eq_false (fun hm => by obtain ⟨j, hj⟩ := List.mem_iff_getElem?.1 hm; exact hno.out j (List.getElem?_eq_some_iff.1 hj).1 hj)]]
      rfl

set_option maxRecDepth 100000 in
set_option maxHeartbeats 4000000 in
theorem in_any (X : List Nm) (p : Option Addr) (cap : Nat) (nm : Nm) (hnm : nm.length = 32) (w : World) (h32 : ∀ x ∈ X, x.length = 32) (hs : Src w p (pcs X)) (hXl : X.length ≤ 1000000000) :
    Calls Tryz.prog 12 #[.slice p X.length cap, idv nm] w fun e w' => e = .returned (Value.bool (decide (nm ∈ X))) ∧ Below w.heap.size w w' := by
  obtain ⟨hz, hid⟩ := info_two idInfo
  have HZ := Lib.hid hz
  have HI := Lib.hid hid
  have HNM := Lib.hid hnm
  have HX32 := Lib.hid h32
  have HS := Lib.hid hs
  clear h32 hs
  obtain ⟨w1, hw1⟩ : ∃ w1, w1 = w.alloc (.cells (bcs nm).toArray 31) := ⟨_, rfl⟩
  have hb1 : Below w.heap.size w w1 := by rw [hw1]; exact (Below.refl _ w).alloc (Nat.le_refl _) _
  have HA := Lib.hid (show cellsAt w1 w.heap.size 0 (bcs nm) by rw [hw1]; simpa using cellsAt_new w (bcs nm).toArray 31)
  have hlt : w.heap.size < w1.heap.size := by rw [hw1]; simp
  have HB1 := Lib.hid hb1
  have HS1 := Lib.hid (HS.out.below hb1 (Nat.le_refl _))

  clear hb1 hz hid hnm
  go_enter Tryz.func12, Tryz.ntmps12
  go_upto_region 1 with (first | (refine wpList_boxAgg _ rfl 31 _ rfl (bcs nm).toArray (by rfl) ?_))
  rw [← hw1]
  clear hw1
  go_wp2_with fail
  try clear hc
  go_loopw [9] (fun i wr => ∃ n : Nat, n ≤ X.length ∧ i = .int .i64 n ∧ Hid (∀ j, j < n → X[j]? ≠ some nm) ∧ Hid (Below w1.heap.size w1 wr)) (fun i _ => X.length - (intOf i).toNat)
  case atStart => exact ⟨0, by omega, rfl, Lib.hid (fun j hj => absurd hj (by omega)), Lib.hid (Below.refl _ _)⟩
  case round =>
    obtain ⟨n, hn1, rfl, hno, hbr⟩ := hrel
    have hszr := hbr.out.size
    have HAr := Lib.hid (HA.out.of_block (hbr.out.block _ hlt))
    by_cases hlt2 : n < X.length
    · obtain ⟨x, g, off, hx1, hx2, hx3, rfl, hx4⟩ := pred_at HS1.out.at_ HX32.out hlt2
      have hg := bcs_at_lt hx4 hx3
      have HX1 := Lib.hid hx1
      have HXc := Lib.hid (show cellsAt wr g (off + n * 32) (bcs x) from hx4.of_block (hbr.out.block _ hg))
      have HX3 := Lib.hid hx3
      have HZX := Lib.hid (show (fillB [] 32).size = (bcs x).toArray.size by rw [show (bcs x).toArray.size = (bcs x).length from rfl, bcs_length, hx3]; rfl)
      have HAw := Lib.hid (show cellsAt (wr.alloc (.cells (bcs x).toArray 31)) w.heap.size 0 (bcs nm) from HAr.out.of_block ((MapKept.heap_alloc _ _).2 _ (by omega)))
      have HXw := Lib.hid (show cellsAt (wr.alloc (.cells (bcs x).toArray 31)) wr.heap.size 0 (bcs x) by simpa using cellsAt_new wr (bcs x).toArray 31)
      have HBw := Lib.hid (hbr.out.alloc hszr (.cells (bcs x).toArray 31))
      clear hx1 hx2 hx3 hx4
      go_upto_if 15 with (first
          | (refine wpList_loadAgg _ rfl 31 _ rfl _ Tryz.underlying31 rfl g (off + n * 32) (by rfl) (bcs x) (by rw [HI.out, bcs_length, HX3.out]) HXc.out ?_)
          | (refine wpList_allocZ _ rfl 31 rfl _ HZ.out ?_)
          | (refine wpList_storeNew _ wr rfl 31 _ _ rfl (fillB [] 32) rfl (by rfl) (bcs x).toArray (by rfl) (by rw [HI.out, List.size_toArray, bcs_length, HX3.out]) HZX.out (by simpa using bcs_one x) ?_)
          | (refine wpList_loadAgg _ rfl 31 _ rfl _ Tryz.underlying31 rfl wr.heap.size 0 (by rfl) (bcs x) (by rw [HI.out, bcs_length, HX3.out]) HXw.out ?_)
          | (refine wpList_loadAgg _ rfl 31 _ rfl _ Tryz.underlying31 rfl w.heap.size 0 (by rfl) (bcs nm) (by rw [HI.out, bcs_length, HNM.out]) HAw.out ?_)
          | (refine wpList_eqId rfl _ _ _ rfl x nm (by rfl) (by rfl) HX3.out HNM.out ?_))
      by_cases heq : x = nm
      · rw [show decide (x = nm) = true from decide_eq_true heq]
        have HEQ := Lib.hid heq
        clear heq
        go_wp2
        go_ret
        refine ⟨?_, HB1.out.trans (HBw.out.mono (Nat.le_of_lt hlt))⟩
        rw [show Value.bool (decide (nm ∈ X)) = Value.bool true from by rw [decide_eq_true (List.mem_of_getElem? (by rw [← HEQ.out]; exact HX1.out) : nm ∈ X)]]
        rfl
      · rw [show decide (x = nm) = false from decide_eq_false heq]
        have HEQ := Lib.hid heq
        clear heq
        go_wp2
        go_roundw
        case rel =>
          refine ⟨n + 1, by omega, by go_num, Lib.hid ?_, HBw⟩
          intro j hj e
          rcases Nat.lt_or_eq_of_le (Nat.le_of_lt_succ hj) with h1 | h1
          · exact hno.out j h1 e
          · subst h1
            rw [HX1.out] at e
            exact HEQ.out (Option.some.inj e)
        case measure => simp [intOf] <;> omega
    · obtain rfl : n = X.length := by omega
      go_wp2
      go_ret
      refine ⟨?_, HB1.out.trans (hbr.out.mono (by omega))⟩
      rw [show Value.bool (decide (nm ∈ X)) = Value.bool false from by rw [decide_eq_false (fun hm => by obtain ⟨j, hj⟩ := List.mem_iff_getElem?.1 hm; exact hno.out j (List.getElem?_eq_some_iff.1 hj).1 hj)]]
      rfl
end Go.Proofs.YtfoifdhcelcgiaaGreatDoor

/- By the document: does an operation lack nothing; how deep it stands. -/
namespace Go.Proofs.YtfoifdhcelcgiaaGreatDoor
open Go Go.RowKit

theorem hasN_mem (O : List E3) (n : Nm) : hasN (O.map E3.ent) n = true ↔ n ∈ O.map (·.n) := by rw [hasN_iff, names_ent]
theorem depAt_of {O : List E3} {n : Nm} {k : Nat} {e : E3} (hk : O[k]? = some e) (hn : e.n = n) (hb : ∀ j, j < k → (O.map (·.n))[j]? ≠ some n) : depAt (O.map E3.ent) n = e.o.depth := by
  have h1 : e3At O n = some e := by
    unfold e3At
    obtain ⟨hkl, hkn⟩ := List.getElem?_eq_some_iff.1 hk
    rw [List.find?_eq_some_iff_getElem]
    refine ⟨by simp [hn], k, hkl, hkn, fun j hj => ?_⟩
    have := hb j hj
    rw [List.getElem?_map, List.getElem?_eq_getElem (by omega)] at this
    simpa using this
  unfold depAt
  rw [← e3At_ent, h1]
  rfl

section
variable (b : Nat) (vo vw vn vm : Value) (F B : Nat → Prop) (O W : List E3)
set_option maxRecDepth 100000 in
set_option maxHeartbeats 8000000 in
theorem whole_any (o : OpV) (ho : o.Ok) (p : Option Addr) (c : Nat) (w : World) (h : RefSet w b vo vw vn vm F B O W) (hL : O.length ≤ 1000000000) (hs : Src w p (pcs o.preds)) :
    Calls Tryz.prog 67 #[.pointer (some ⟨b, 0, none⟩), .agg (o.cs p c).toArray] w fun e w' => e = .returned (.bool (wholeB (O.map E3.ent) o)) ∧ Below w.heap.size w w' := by
  obtain ⟨hz, hid⟩ := info_two idInfo
  have HZ := Lib.hid hz
  have HI := Lib.hid hid
  have HD := Lib.hid ho
  have HS := Lib.hid hs
  have HH := Lib.hid h
  have hat : cellsAt (w.alloc (.cells (o.cs p c).toArray 46)) w.heap.size 0 (o.cs p c) := by simpa using cellsAt_new w (o.cs p c).toArray 46
  have HA := Lib.hid hat
  have h37 := (OpV.cs_at ho hat).2.2
  have H37 := Lib.hid h37
  have hn := ho.len
  clear hat ho hs h h37 hz hid
  obtain ⟨w1, hw1⟩ : ∃ w1, w1 = w.alloc (.cells (o.cs p c).toArray 46) := ⟨_, rfl⟩
  go_enter Tryz.func67, Tryz.ntmps67
  go_upto_region 1 with (first | (refine wpList_boxAgg _ rfl 46 _ rfl (o.cs p c).toArray (by rfl) ?_))
  rw [← hw1] at HA H37 ⊢
  have hb1 : Below w.heap.size w w1 := by rw [hw1]; exact (Below.refl _ w).alloc (Nat.le_refl _) _
  have hlt : w.heap.size < w1.heap.size := by rw [hw1]; simp
  have HB1 := Lib.hid hb1
  have HS1 := Lib.hid (HS.out.below hb1 (Nat.le_refl _))
  have HH1 := Lib.hid (HH.out.under hb1)
  clear hw1 hb1
  have hcell := H37.out
  go_wp2_with fail
  clear hcell
  go_loopw [10] (fun x wr => ∃ (n : Nat), n ≤ o.preds.length ∧ x = .int .i64 n ∧ Hid (∀ y ∈ o.preds.take n, hasN (O.map E3.ent) y = true) ∧ Hid (Below w1.heap.size w1 wr)) (fun x _ => o.preds.length - (intOf x).toNat)
  case atStart => exact ⟨0, by omega, rfl, Lib.hid (by simp), Lib.hid (Below.refl _ _)⟩
  case round =>
    obtain ⟨n, hn1, rfl, hall, hbr⟩ := hrel
    have hszr := hbr.out.size
    by_cases hlt2 : n < o.preds.length
    · obtain ⟨x, g, off, hx1, hx2, hx3, rfl, hx4⟩ := pred_at HS1.out.at_ HD.out.ids hlt2
      have hg := bcs_at_lt hx4 hx3
      have hcx : cellsAt wr g (off + n * 32) (bcs x) := hx4.of_block (hbr.out.block _ hg)
      have HX := Lib.hid hcx
      have HXm := Lib.hid (List.mem_of_getElem? hx1)
      have HX2 := Lib.hid hx2
      have HX3 := Lib.hid hx3
      have HZX := Lib.hid (show (fillB [] 32).size = (bcs x).toArray.size by rw [show (bcs x).toArray.size = (bcs x).length from rfl, bcs_length, hx3]; rfl)
      clear hx1 hx2 hx3 hx4 hcx
      go_upto_region 4 with (first
        | (refine wpList_loadAgg _ rfl 31 _ rfl _ Tryz.underlying31 rfl g (off + n * 32) (by rfl) (bcs x) (by rw [HI.out, bcs_length, HX3.out]) HX.out ?_)
        | (refine wpList_allocZ _ rfl 31 rfl _ HZ.out ?_)
        | (refine wpList_storeNew _ wr rfl 31 _ _ rfl (fillB [] 32) rfl (by rfl) (bcs x).toArray (by rfl) (by rw [HI.out, List.size_toArray, bcs_length, HX3.out]) HZX.out (by simpa using bcs_one x) ?_))
      obtain ⟨w2, hw2⟩ : ∃ w2, w2 = wr.alloc (.cells (bcs x).toArray 31) := ⟨_, rfl⟩
      rw [← hw2]
      have hb2 : Below wr.heap.size wr w2 := by rw [hw2]; exact (Below.refl _ wr).alloc (Nat.le_refl _) _
      have HX5 := Lib.hid (show cellsAt w2 wr.heap.size 0 (bcs x) by rw [hw2]; simpa using cellsAt_new wr (bcs x).toArray 31)
      have hz2' : wr.heap.size < w2.heap.size := by rw [hw2]; simp
      have HB2 := Lib.hid (hbr.out.trans (hb2.mono (by omega)))
      clear hw2 hb2
      have HH2 := Lib.hid (HH1.out.under HB2.out)
      obtain ⟨AT, hAT⟩ : ∃ AT, AT = atI (O.map (·.n)) x := ⟨_, rfl⟩
      have hcl := at_any b vo vw vn vm F B O W x HX3.out w2 HH2.out hL
      rw [← hAT] at hcl
      have HCL := Lib.hid hcl
      have hneg : AT < 0 ↔ hasN (O.map E3.ent) x = false := by
        rw [hAT, atI_neg, ← hasN_mem, Bool.not_eq_true]
      have HNEG := Lib.hid hneg
      clear hcl hneg hAT
      by_cases hlt0 : AT < 0
      · have d0 : decide (AT < 0) = true := by simpa using hlt0
        go_wp2_with (first
          | (refine wpList_loadAgg _ rfl 31 _ rfl _ Tryz.underlying31 rfl wr.heap.size 0 (by rfl) (bcs x) (by rw [HI.out, bcs_length, HX3.out]) HX5.out ?_)
          | (go_at_call 13; refine HCL.out.mono ?_; rintro e w3 ⟨rfl, hb3⟩))
        go_ret
        have hf : wholeB (O.map E3.ent) o = false := by
          cases hwb : wholeB (O.map E3.ent) o with
          | false => rfl
          | true =>
            have h1 := List.all_eq_true.1 hwb x HXm.out
            rw [HNEG.out.1 hlt0] at h1
            cases h1
        exact ⟨by rw [hf]; rfl, HB1.out.trans ((HB2.out.trans (hb3.mono (by omega))).mono (Nat.le_of_lt hlt))⟩
      · have d0 : decide (AT < 0) = false := by simpa using hlt0
        go_wp2_with (first
          | (refine wpList_loadAgg _ rfl 31 _ rfl _ Tryz.underlying31 rfl wr.heap.size 0 (by rfl) (bcs x) (by rw [HI.out, bcs_length, HX3.out]) HX5.out ?_)
          | (go_at_call 13; refine HCL.out.mono ?_; rintro e w3 ⟨rfl, hb3⟩))
        go_roundw
        case rel =>
          refine ⟨n + 1, by omega, by go_num, Lib.hid ?_, Lib.hid (HB2.out.trans (hb3.mono (by omega)))⟩
          intro y hy
          rw [HX2.out] at hy
          rcases List.mem_append.1 hy with hy | hy
          · exact hall.out y hy
          · rw [List.mem_singleton.1 hy]
            cases hh : hasN (O.map E3.ent) x with
            | true => rfl
            | false => exact absurd (HNEG.out.2 hh) (by omega)
        case measure => simp [intOf] <;> omega
    · obtain rfl : n = o.preds.length := by omega
      go_wp2
      go_ret
      have hf : wholeB (O.map E3.ent) o = true := by
        rw [wholeB, List.all_eq_true]
        intro y hy
        exact hall.out y (by rw [List.take_length]; exact hy)
      exact ⟨by rw [hf]; rfl, HB1.out.trans (hbr.out.mono (by omega))⟩

set_option maxRecDepth 100000 in
set_option maxHeartbeats 8000000 in
theorem rdepth_any (o : OpV) (ho : o.Ok) (p : Option Addr) (c : Nat) (w : World) (h : RefSet w b vo vw vn vm F B O W) (hL : O.length ≤ 1000000000) (hs : Src w p (pcs o.preds)) (hw : wholeB (O.map E3.ent) o = true) :
    Calls Tryz.prog 68 #[.pointer (some ⟨b, 0, none⟩), .agg (o.cs p c).toArray] w fun e w' => e = .returned (.int .i64 (depthOf (O.map E3.ent) o)) ∧ Below w.heap.size w w' := by
  obtain ⟨hz, hid⟩ := info_two idInfo
  have HZ := Lib.hid hz
  have HI := Lib.hid hid
  have HD := Lib.hid ho
  have HS := Lib.hid hs
  have HH := Lib.hid h
  have HWH := Lib.hid hw
  have hat : cellsAt (w.alloc (.cells (o.cs p c).toArray 46)) w.heap.size 0 (o.cs p c) := by simpa using cellsAt_new w (o.cs p c).toArray 46
  have HA := Lib.hid hat
  have h37 := (OpV.cs_at ho hat).2.2
  have H37 := Lib.hid h37
  have hn := ho.len
  obtain ⟨po, co, rfl⟩ := h.ops.form
  clear hat ho hs h h37 hz hid hw
  obtain ⟨w1, hw1⟩ : ∃ w1, w1 = w.alloc (.cells (o.cs p c).toArray 46) := ⟨_, rfl⟩
  go_enter Tryz.func68, Tryz.ntmps68
  go_upto_region 2 with (first | (refine wpList_boxAgg _ rfl 46 _ rfl (o.cs p c).toArray (by rfl) ?_))
  rw [← hw1] at HA H37 ⊢
  have hb1 : Below w.heap.size w w1 := by rw [hw1]; exact (Below.refl _ w).alloc (Nat.le_refl _) _
  have hlt : w.heap.size < w1.heap.size := by rw [hw1]; simp
  have HB1 := Lib.hid hb1
  have HS1 := Lib.hid (HS.out.below hb1 (Nat.le_refl _))
  have HH1 := Lib.hid (HH.out.under hb1)
  clear hw1 hb1
  have hcell := H37.out
  go_wp2_with fail
  clear hcell
  go_loopw [5, 12] (fun v x wr => ∃ (n : Nat) (D : Int), n ≤ o.preds.length ∧ x = .int .i64 n ∧ v = .int .i64 D ∧ Hid (D = deepL (O.map E3.ent) (o.preds.take n)) ∧ Hid (Below w1.heap.size w1 wr)) (fun _ x _ => o.preds.length - (intOf x).toNat)
  case atStart => exact ⟨0, 0, by omega, rfl, rfl, Lib.hid rfl, Lib.hid (Below.refl _ _)⟩
  case round =>
    obtain ⟨n, D, hn1, rfl, rfl, hL2, hbr⟩ := hrel
    have hszr := hbr.out.size
    by_cases hlt2 : n < o.preds.length
    · obtain ⟨x, g, off, hx1, hx2, hx3, rfl, hx4⟩ := pred_at HS1.out.at_ HD.out.ids hlt2
      have hg := bcs_at_lt hx4 hx3
      have hcx : cellsAt wr g (off + n * 32) (bcs x) := hx4.of_block (hbr.out.block _ hg)
      have hxm : x ∈ O.map (·.n) := (hasN_mem O x).1 (List.all_eq_true.1 HWH.out x (List.mem_of_getElem? hx1))
      obtain ⟨k, hk1, hk2, hk3, hk4⟩ := atI_get hxm
      have hk2' : k < O.length := by simpa using hk2
      obtain ⟨e, he⟩ : ∃ e, O[k]? = some e := ⟨_, List.getElem?_eq_getElem hk2'⟩
      have hen : e.n = x := by rw [List.getElem?_map, he] at hk3; exact Option.some.inj hk3
      have hdep := depAt_of he hen hk4
      have hem := List.mem_of_getElem? he
      have hoc : (ocs O)[38 * k + 36]? = some (.int .i64 e.o.depth) := ocs_at (fun e he => OpV.cs_length (HH.out.okO e he).ok _ _) he (by
        unfold E3.cs OpV.cs
        rw [List.getElem?_append_right (by rw [Dr.cs_length (HH.out.okO e hem).ok.d]; omega), Dr.cs_length (HH.out.okO e hem).ok.d]
        rfl)
      obtain ⟨go, oo, rfl, hcO⟩ := HH1.out.ops.src _ _ hoc
      have hgo : go < w1.heap.size ∧ oo = 0 := ⟨(HH1.out.ops.at rfl).2.1, (HH1.out.ops.at rfl).2.2.1⟩
      obtain ⟨hgo, rfl⟩ := hgo
      have HDEP := Lib.hid hdep
      have HK1 := Lib.hid hk1
      have HCO := Lib.hid hcO
      have HX := Lib.hid hcx
      have HX2 := Lib.hid hx2
      have HX3 := Lib.hid hx3
      have HZX := Lib.hid (show (fillB [] 32).size = (bcs x).toArray.size by rw [show (bcs x).toArray.size = (bcs x).length from rfl, bcs_length, hx3]; rfl)
      clear hx1 hx2 hx3 hx4 hcx hxm hk1 hk3 hk4 hk2 he hen hdep hem hoc hcO
      obtain ⟨E, hE⟩ : ∃ E, E = e.o.depth := ⟨_, rfl⟩
      rw [← hE] at HCO HDEP
      clear hE
      go_upto_region 5 with (first
        | (refine wpList_loadAgg _ rfl 31 _ rfl _ Tryz.underlying31 rfl g (off + n * 32) (by rfl) (bcs x) (by rw [HI.out, bcs_length, HX3.out]) HX.out ?_)
        | (refine wpList_allocZ _ rfl 31 rfl _ HZ.out ?_)
        | (refine wpList_storeNew _ wr rfl 31 _ _ rfl (fillB [] 32) rfl (by rfl) (bcs x).toArray (by rfl) (by rw [HI.out, List.size_toArray, bcs_length, HX3.out]) HZX.out (by simpa using bcs_one x) ?_))
      obtain ⟨w2, hw2⟩ : ∃ w2, w2 = wr.alloc (.cells (bcs x).toArray 31) := ⟨_, rfl⟩
      rw [← hw2]
      have hb2 : Below wr.heap.size wr w2 := by rw [hw2]; exact (Below.refl _ wr).alloc (Nat.le_refl _) _
      have HX5 := Lib.hid (show cellsAt w2 wr.heap.size 0 (bcs x) by rw [hw2]; simpa using cellsAt_new wr (bcs x).toArray 31)
      have hz2' : wr.heap.size < w2.heap.size := by rw [hw2]; simp
      have HB2 := Lib.hid (hbr.out.trans (hb2.mono (by omega)))
      obtain ⟨N2, hN2, hN3⟩ : ∃ n, w2.heap.size ≤ n ∧ n ≤ w2.heap.size := ⟨_, Nat.le_refl _, Nat.le_refl _⟩
      clear hw2 hb2
      have HH2 := Lib.hid (HH1.out.under HB2.out)
      refine wp_region_noPanic ?_
      refine wp_region_till 7 (fun w' => Below N2 w2 w') (by kernel_rfl) (by kernel_rfl) ?_
      obtain ⟨wA, hwA⟩ : ∃ wA, wA = w2.drew := ⟨_, rfl⟩
      have hSA : Below N2 w2 wA := by rw [hwA]; exact (Below.refl N2 w2).drew
      rw [← hwA]
      have HSA := Lib.hid hSA
      have hzA : wA.heap.size = w2.heap.size := by rw [hwA]; rfl
      clear hwA hSA
      go_simp
      refine Till.pure 0 rfl rfl (by kernel_rfl) (NoPanic.noFrame _) HSA.out ?_
      go_big_quiet_step (fail)
      refine wpQuiet_nil ?_
      refine Till.pure 1 rfl rfl (by kernel_rfl) (NoPanic.noFrame _) HSA.out ?_
      go_big_quiet_step (fail)
      refine wpQuiet_nil ?_
      refine Till.pure 2 rfl rfl (by kernel_rfl) (NoPanic.noFrame _) HSA.out ?_
      go_big_quiet_step (fail)
      refine wpQuiet_nil ?_
      refine Till.load 3 35 _ ⟨b, 0, none⟩ (.slice (some ⟨go, 0, none⟩) O.length co) rfl rfl rfl rfl (by kernel_rfl) (NoPanic.noFrame _) HSA.out (fun w' hw' => run_loadVar_one Tryz.underlying35 rfl (HH2.out.below hw' hN2).c0) ?_
      go_simp
      refine Till.pure 4 rfl rfl (by kernel_rfl) (NoPanic.noFrame _) HSA.out ?_
      go_big_quiet_step (fail)
      refine wpQuiet_nil ?_
      refine Till.load 5 31 _ ⟨wr.heap.size, 0, none⟩ (idv x) rfl rfl rfl rfl (by kernel_rfl) (NoPanic.noFrame _) HSA.out (fun w' hw' => run_loadAgg Tryz.underlying31 rfl (by rw [HI.out, bcs_length, HX3.out]) (HX5.out.of_block (hw'.block _ (by omega)))) ?_
      go_simp
      refine Till.act 6 rfl rfl (by kernel_rfl) rfl ?_
      intro K hK
      have hcl := at_any b _ vw vn vm F B O W x HX3.out wA (HH2.out.below HSA.out hN2) hL
      rw [HK1.out] at hcl
      have HCL := Lib.hid hcl
      clear hcl
      go_wp2_with (first | (go_at_call 13; refine HCL.out.mono ?_; rintro e5 w5 ⟨rfl, hb5⟩))
      have hS5 := HSA.out.trans (hb5.mono (by omega))
      refine hK _ _ hS5 ?_
      clear hK K
      have HB5 := Lib.hid (HB2.out.trans (hS5.mono (by omega)))
      have hz5 := hb5.size
      have hk38 : w5.cell? ⟨go, k * 38 + 36, none⟩ = some (.int .i64 E) := by
        have h1 := (cell_eq (HB5.out.block go hgo) (0 + (38 * k + 36))).trans HCO.out
        rwa [show 0 + (38 * k + 36) = k * 38 + 36 by omega] at h1
      have hkO : (k : Int) < (O.length : Int) := by omega
      clear hb5 hS5
      refine Till.tail _ rfl rfl (by kernel_rfl) (by kernel_rfl) ?_
      go_wp2
      refine NoPanic.normal ?_
      clear hk38
      by_cases hgt : E > D
      · have d1 : decide (E > D) = true := by simpa using hgt
        have d2 : decide (D < E) = true := by simpa using hgt
        go_wp2
        go_roundw
        case rel => exact ⟨n + 1, E, by omega, by go_num, rfl, Lib.hid (by rw [HX2.out]; simp only [deepL, List.foldl_append, List.foldl_cons, List.foldl_nil, HDEP.out]; have := hL2.out; simp only [deepL] at this; rw [← this]; omega), HB5⟩
        case measure => simp [intOf] <;> omega
      · have d1 : decide (E > D) = false := by simpa using hgt
        have d2 : decide (D < E) = false := by simpa using hgt
        go_wp2
        go_roundw
        case rel => exact ⟨n + 1, D, by omega, by go_num, rfl, Lib.hid (by rw [HX2.out]; simp only [deepL, List.foldl_append, List.foldl_cons, List.foldl_nil, HDEP.out]; have := hL2.out; simp only [deepL] at this; rw [← this]; omega), HB5⟩
        case measure => simp [intOf] <;> omega
    · obtain rfl : n = o.preds.length := by omega
      go_wp2
      go_ret
      have := hL2.out
      rw [List.take_length] at this
      exact ⟨by rw [this, depthOf, IntWalk.i64_left]; rfl, HB1.out.trans (hbr.out.mono (by omega))⟩
end
end Go.Proofs.YtfoifdhcelcgiaaGreatDoor

/- Names in order, by the document: each is put where it belongs. -/
namespace Go.Proofs.YtfoifdhcelcgiaaGreatDoor
open Go Go.RowKit

section
variable {P : Program} {w : World} {o : Oper} {a : Act} {Q : Exit → Act → World → Prop} {K : Act → World → Prop}
theorem wp_buildOne (t : TypeId) (x : Operand) (hop : o.op = .buildSlice t 1 #[(0, x)])
    (e : TypeId) (n : Nat) (Z : Value) (ht : P.underlying t = some (.slice e)) (hi : (P.info? e).map (·.size) = some n) (hn : 0 < n) (hn2 : n ≤ 1000) (hz : ∀ w, (zeroValue e).run P w = .ok Z w) (cs : Array Value) (hx : a.eval x = .agg cs) (hc : cs.size = n)
    (h : K (a.put o.dst (.slice (some ⟨w.heap.size, 0, none⟩) 1 1)) (w.alloc (.cells cs e))) : o.wp P a w K Q := by
  have hr := run_buildOne (w := w) ht hi hn hn2 hz hc
  refine wp_run w ?_ h
  unfold execOp
  simp only [hop, List.map_toArray, List.map_cons, List.map_nil, hx, Sem.run_bind, hr, Result.andThen_ok, Sem.run_pure]
theorem wp_append_G (s x : Operand) (t : TypeId)
    (ho : o.op = .call { callee := .builtin .append, args := #[s, x], argTypes := #[t, t] })
    (base : Nat) (e : TypeId) (i : TypeInfo) (z : Value) (size bytes : Nat) (ht : P.underlying t = some (.slice e)) (hi : P.info? e = some i) (hz : i.zero = some z)
    (hsize : i.size = size) (hby : i.bytes = bytes) (hzs : z.cells.size = size) (hsz : 0 < size)
    (v : Value) (n : Nat) (xs : List Value) (hs : a.eval s = v) (hown : Owns w base e size v n xs)
    (A : Option Addr) (m c : Nat) (news : List Value) (hx : a.eval x = .slice A m c) (hl : news.length = m * size) (hnews : SrcAt w A news) (hA : ∀ a, A = some a → a.spot = none) (h1 : ∀ u ∈ news, u.oneCell' = true)
    (h63 : n + m ≤ maxLen) (hbytes : (n + m) * bytes ≤ 140737488355328) (hbase : base ≤ w.heap.size)
    (h : ∀ v' w', Owns w' base e size v' (n + m) (xs ++ news) → w.grownBy w' v.ownBlock → (v'.ownBlock = v.ownBlock ∨ v'.ownBlock = some w.heap.size) → K (a.put o.dst v') w') : o.wp P a w K Q := by
  obtain ⟨v', w', hrun, h2, h3, h4⟩ := run_append_G (P := P) base t o.type e i z size bytes ht hi hz hsize hby hzs hsz v n xs hown A m c news hl hnews hA h1 h63 hbytes hbase
  refine wp_run w ?_ (h v' w' h2 h3 h4)
  unfold execOp
  simp only [ho, resolve, invoke, builtin, Sem.run_bind, Sem.run_pure, Result.andThen_ok, List.map_toArray, List.map_cons, List.map_nil, hs, hx, hrun]
theorem wp_append_full (s x : Operand) (t : TypeId)
    (ho : o.op = .call { callee := .builtin .append, args := #[s, x], argTypes := #[t, t] })
    (base : Nat) (e : TypeId) (i : TypeInfo) (z : Value) (size bytes : Nat) (ht : P.underlying t = some (.slice e)) (hi : P.info? e = some i) (hz : i.zero = some z)
    (hsize : i.size = size) (hby : i.bytes = bytes) (hzs : z.cells.size = size) (hsz : 0 < size)
    (A : Option Addr) (k : Nat) (hs : a.eval s = .slice A k k) (olds : List Value) (hlo : olds.length = k * size) (holds : SrcAt w A olds) (hA : ∀ a, A = some a → a.spot = none)
    (ad : Addr) (m c : Nat) (hx : a.eval x = .slice (some ad) m c) (news : List Value) (hl : news.length = m * size) (hnews : ∀ j u, news[j]? = some u → w.cell? (ad.add j) = some u) (h1 : ∀ u ∈ news, u.oneCell' = true) (hm : 0 < m)
    (h63 : k + m ≤ maxLen) (hbytes : (k + m) * bytes ≤ 140737488355328) (hbase : base ≤ w.heap.size)
    (h : ∀ v' w', w'.ownsRow base e size v' (k + m) (olds ++ news) → w.grownBy w' none → v'.ownBlock = some w.heap.size → K (a.put o.dst v') w') : o.wp P a w K Q := by
  obtain ⟨v', w', hrun, h2, h3, h4⟩ := run_append_full (P := P) base t o.type e i z size bytes ht hi hz hsize hby hzs hsz A k olds hlo holds hA ad m c news hl hnews h1 hm h63 hbytes hbase
  refine wp_run w ?_ (h v' w' h2 h3 h4)
  unfold execOp
  simp only [ho, resolve, invoke, builtin, Sem.run_bind, Sem.run_pure, Result.andThen_ok, List.map_toArray, List.map_cons, List.map_nil, hs, hx, hrun]

variable {S : World → Prop} {md : Region.Mode} {n : Nat} {ops : Array Oper}
/-- a[:k:k] -/
theorem Till.full (i : Nat) {fuel : Nat} {oi : Oper} {listed : Array Bool} {a : Act} {w : World} (t : TypeId) (x y y' : Operand) {rest : List Oper} (hi0 : ops.toList.drop i = oi :: rest) (hop : oi.op = .slice t x none (some y) (some y')) (hw : Region.wanted oi (yielded ops a.tmps) = true)
    (e : TypeId) (size : Nat) (ht : P.underlying t = some (.slice e)) (hi : (P.info? e).map (·.size) = some size) (p : Option Addr) (m c k : Nat) (kk kk' : IntKind) (hx : a.eval x = .slice p m c) (hy : a.eval y = .int kk k) (hy' : a.eval y' = .int kk' k) (hk : k ≤ c) (hp : ∀ a, p = some a → a.spot = none)
    (hB : mayB md ops n i listed = true) (hQ : NoFrame Q) (hS : S w)
    (h : Till P md ops Q S n fuel (listed.setIfInBounds i true) (a.put oi.dst (.slice p k k)) w) : Till P md ops Q S n (fuel + 1) listed a w :=
  Till.take (v := .slice p k k) (at_drop hi0) hB hQ hS (.inl ⟨hw, fun w' _ => by
    have he : P.elem t = e := by simp [Program.elem, ht]
    have ht' : P.underlying t = some (.slice (P.elem t)) := by rw [he]; exact ht
    have hA : (if k = 0 then p else p.map (·.add (0 * size))) = p := by
      split
      · rfl
      · cases p with
        | none => rfl
        | some q => simp [Addr.add]
    unfold execOp
    simp only [hop, hx, hy, hy', Option.map_some, Option.map_none, Sem.run_bind, Sem.run_pure, run_sliceAt_slice w' t _ _ _ _ ht', run_slice_hm w' t p m c ht' kk kk' k k (by omega) (by omega) (by omega), he, run_sizeOf hi, Result.andThen_ok, sliced, Int.toNat_natCast, hA, Nat.sub_zero]⟩) h
end

theorem insL_at : ∀ {L : List Nm} {n : Nm} {k : Nat}, k ≤ L.length → (∀ j x, j < k → L[j]? = some x → cmpB x n < 0) → (∀ x, L[k]? = some x → ¬ cmpB x n < 0) → insL L n = L.take k ++ [n] ++ L.drop k
  | [], n, k, hk, _, _ => by
    obtain rfl : k = 0 := by simpa using hk
    rfl
  | a :: r, n, 0, _, _, h2 => by
    rw [insL, if_neg (h2 a rfl)]
    rfl
  | a :: r, n, k + 1, hk, h1, h2 => by
    rw [insL, if_pos (h1 0 a (by omega) rfl), insL_at (k := k) (by simpa using hk) (fun j x hj hx => h1 (j + 1) x (by omega) (by simpa using hx)) (fun x hx => h2 x (by simpa using hx))]
    rfl
theorem insL_length (L : List Nm) (n : Nm) : (insL L n).length = L.length + 1 := (insL_perm L n).length_eq

theorem pcs_take {l : List Nm} (h : ∀ x ∈ l, x.length = 32) (k : Nat) : (pcs l).take (k * 32) = pcs (l.take k) := by
  induction l generalizing k with
  | nil => simp [pcs]
  | cons a r ih =>
    cases k with
    | zero => simp [pcs]
    | succ k =>
      have ha : (bcs a).length = 32 := by rw [bcs_length, h a (by simp)]
      simp only [pcs, List.flatMap_cons, List.take_succ_cons] at ih ⊢
      rw [List.take_append, ha, List.take_of_length_le (by omega), show (k + 1) * 32 - 32 = k * 32 by omega, ih (fun x hx => h x (by simp [hx]))]
theorem pcs_drop {l : List Nm} (h : ∀ x ∈ l, x.length = 32) (k : Nat) : (pcs l).drop (k * 32) = pcs (l.drop k) := by
  induction l generalizing k with
  | nil => simp [pcs]
  | cons a r ih =>
    cases k with
    | zero => simp [pcs]
    | succ k =>
      have ha : (bcs a).length = 32 := by rw [bcs_length, h a (by simp)]
      simp only [pcs, List.flatMap_cons, List.drop_succ_cons] at ih ⊢
      rw [List.drop_append, ha, List.drop_eq_nil_of_le (by omega), show (k + 1) * 32 - 32 = k * 32 by omega, ih (fun x hx => h x (by simp [hx])), List.nil_append]
theorem foldl_insL_mem {l out : List Nm} {x : Nm} (h : x ∈ l.foldl insL out) : x ∈ out ∨ x ∈ l := by
  induction l generalizing out with
  | nil => exact .inl h
  | cons a r ih =>
    rcases ih h with h | h
    · rcases List.mem_cons.1 ((insL_perm out a).mem_iff.1 h) with rfl | h
      · exact .inr (by simp)
      · exact .inl h
    · exact .inr (by simp [h])

set_option maxRecDepth 100000 in
set_option maxHeartbeats 16000000 in
theorem rising_any (X : List Nm) (p : Option Addr) (cap : Nat) (w : World) (h32 : ∀ x ∈ X, x.length = 32) (hs : Src w p (pcs X)) (hX : X.length ≤ 1000000) :
    Calls Tryz.prog 64 #[.slice p X.length cap] w fun e w' => ∃ v, e = .returned v ∧ Owns w' w.heap.size 31 32 v (risingL X).length (pcs (risingL X)) ∧ Below w.heap.size w w' := by
  obtain ⟨i0, hi, hz0, hz1, hz2⟩ := info_parts idInfo3
  obtain ⟨hz, hid⟩ := info_two idInfo
  have HZ := Lib.hid hz
  have HI := Lib.hid hid
  have HS := Lib.hid hs
  have H32 := Lib.hid h32
  clear hz hid hs h32
  go_enter Tryz.func64, Tryz.ntmps64
  go_wp2_with fail
  go_loopw [3, 10] (fun v x wr => ∃ (n : Nat) (L : List Nm), n ≤ X.length ∧ x = .int .i64 n ∧ L.length = n ∧ Hid (L = (X.take n).foldl insL []) ∧ Hid (Owns wr w.heap.size 31 32 v L.length (pcs L)) ∧ Hid (Below w.heap.size w wr)) (fun _ x _ => X.length - (intOf x).toNat)
  case atStart => exact ⟨0, [], by omega, rfl, rfl, Lib.hid rfl, Lib.hid (Owns.nil _ _ _ _), Lib.hid (Below.refl _ _)⟩
  case round =>
    obtain ⟨n, L, hn1, rfl, hlen, HLd, hown, hbr⟩ := hrel
    have hszr := hbr.out.size
    have hLl := Nat.le_of_eq hlen
    have HLEN := Lib.hid hlen
    clear hlen
    by_cases hlt2 : n < X.length
    · obtain ⟨nm, g, off, hx1, hx2, hx3, rfl, hx4⟩ := pred_at HS.out.at_ H32.out hlt2
      have hg := bcs_at_lt hx4 hx3
      have hcx : cellsAt wr g (off + n * 32) (bcs nm) := hx4.of_block (hbr.out.block _ hg)
      have HX := Lib.hid hcx
      have HTK := Lib.hid hx2
      have HNM := Lib.hid hx3
      have HL32 := Lib.hid (show ∀ x ∈ L, x.length = 32 from fun x hx => by
        rw [HLd.out] at hx
        rcases foldl_insL_mem hx with h | h
        · simp at h
        · exact H32.out x (List.mem_of_mem_take h))
      have HPL := Lib.hid (show (pcs L).length = L.length * 32 by rw [pcs_length HL32.out, Nat.mul_comm])
      have HZX := Lib.hid (show (fillB [] 32).size = (bcs nm).toArray.size by rw [show (bcs nm).toArray.size = (bcs nm).length from rfl, bcs_length, hx3]; rfl)
      obtain ⟨pL, capL, rfl⟩ := hown.out.form
      have hcap : L.length ≤ capL := hown.out.cap_le.1
      have HSPL := Lib.hid hown.out.spot
      clear hx1 hx2 hx3 hx4 hcx
      go_upto_region 5 with (first
        | (refine wpList_loadAgg _ rfl 31 _ rfl _ Tryz.underlying31 rfl g (off + n * 32) (by rfl) (bcs nm) (by rw [HI.out, bcs_length, HNM.out]) HX.out ?_)
        | (refine wpList_allocZ _ rfl 31 rfl _ HZ.out ?_)
        | (refine wpList_storeNew _ wr rfl 31 _ _ rfl (fillB [] 32) rfl (by rfl) (bcs nm).toArray (by rfl) (by rw [HI.out, List.size_toArray, bcs_length, HNM.out]) HZX.out (by simpa using bcs_one nm) ?_))
      obtain ⟨kp, hkp⟩ : ∃ kp, kp = wr.heap.size := ⟨_, rfl⟩
      obtain ⟨w2, hw2⟩ : ∃ w2, w2 = wr.alloc (.cells (bcs nm).toArray 31) := ⟨_, rfl⟩
      rw [← hw2, ← hkp]
      have hb2 : Below wr.heap.size wr w2 := by rw [hw2]; exact (Below.refl _ wr).alloc (Nat.le_refl _) _
      have HPC2 := Lib.hid (show cellsAt w2 kp 0 (bcs nm) by rw [hw2, hkp]; simpa using cellsAt_new wr (bcs nm).toArray 31)
      have hz2' : kp < w2.heap.size := by rw [hw2, hkp]; simp
      have hz2k : wr.heap.size ≤ kp := by omega
      have HB2 := Lib.hid (hbr.out.trans (hb2.mono (by omega)))
      have HO2 := Lib.hid (hown.out.under hb2)
      have HSL2 := Lib.hid HO2.out.srcOf
      clear hw2 hb2 hkp
      go_wp2_with fail
      go_loopw [6] (fun x wz => ∃ k : Nat, k ≤ L.length ∧ x = .int .i64 k ∧ Hid (∀ j x, j < k → L[j]? = some x → cmpB x nm < 0) ∧ Hid (Below w2.heap.size w2 wz)) (fun x _ => L.length - (intOf x).toNat)
      case atStart => exact ⟨0, by omega, rfl, Lib.hid (fun j x hj => absurd hj (by omega)), Lib.hid (Below.refl _ _)⟩
      case round =>
        obtain ⟨k, hk, rfl, HALL, HBZ⟩ := hrel
        have hszz := HBZ.out.size
        obtain ⟨NZ, hNZa, hNZb⟩ : ∃ n, wr.heap.size ≤ n ∧ n ≤ wr.heap.size := ⟨_, Nat.le_refl _, Nat.le_refl _⟩
        by_cases hlk : k < L.length
        · skip
          obtain ⟨x, gL, oL, hx1, hx2, hx3, hpe, hx4⟩ := pred_at (HSL2.out.below HBZ.out (Nat.le_refl _)).at_ HL32.out hlk
          subst hpe
          have hgL : gL < w2.heap.size := HSL2.out.lt (fun e => by have h1 := HPL.out; rw [e] at h1; simp at h1; omega) gL oL rfl
          have HX1 := Lib.hid hx1
          have HX3 := Lib.hid hx3
          have HX4 := Lib.hid hx4
          have HPCZ := Lib.hid (HPC2.out.of_block (HBZ.out.block _ hz2'))
          have hd : (k : Int) < (L.length : Int) := by omega
          have hdd : decide ((k : Int) < (L.length : Int)) = true := by simpa using hd
          clear hx1 hx2 hx3 hx4
          go_upto_region 6 with fail
          refine wp_region_noPanic ?_
          refine wp_region_till 11 (fun w' => Below NZ wr w') (by kernel_rfl) (by kernel_rfl) ?_
          obtain ⟨wB, hwB⟩ : ∃ wB, wB = wr.drew := ⟨_, rfl⟩
          have hSwB : Below NZ wr wB := by rw [hwB]; exact (Below.refl NZ wr).drew
          rw [← hwB]
          have HSB := Lib.hid hSwB
          have hzwB : wB.heap.size = wr.heap.size := by rw [hwB]; rfl
          clear hwB hSwB
          go_simp
          refine Till.pure 0 rfl rfl (by kernel_rfl) (NoPanic.noFrame _) HSB.out ?_
          go_big_quiet_step (fail)
          refine wpQuiet_nil ?_
          refine Till.pure 1 rfl rfl (by kernel_rfl) (NoPanic.noFrame _) HSB.out ?_
          go_big_quiet_step (fail)
          refine wpQuiet_nil ?_
          refine Till.act 2 rfl rfl (by kernel_rfl) rfl ?_
          intro K hK
          go_wp2_with fail
          refine hK _ _ HSB.out ?_
          clear hK K
          refine Till.pure 3 rfl rfl (by kernel_rfl) (NoPanic.noFrame _) HSB.out ?_
          go_big_quiet_step (fail)
          refine wpQuiet_nil ?_
          refine Till.pure 4 rfl rfl (by kernel_rfl) (NoPanic.noFrame _) HSB.out ?_
          go_big_quiet_step (fail)
          refine wpQuiet_nil ?_
          refine Till.pure 5 rfl rfl (by kernel_rfl) (NoPanic.noFrame _) HSB.out ?_
          go_big_quiet_step (fail)
          refine wpQuiet_nil ?_
          refine Till.pure 6 rfl rfl (by kernel_rfl) (NoPanic.noFrame _) HSB.out ?_
          go_big_quiet_step (fail)
          refine wpQuiet_nil ?_
          refine Till.pure 7 rfl rfl (by kernel_rfl) (NoPanic.noFrame _) HSB.out ?_
          go_big_quiet_step (fail)
          refine wpQuiet_nil ?_
          refine Till.load 8 31 _ ⟨gL, oL + k * 32, none⟩ (idv x) rfl rfl rfl rfl (by kernel_rfl) (NoPanic.noFrame _) HSB.out (fun w' hw' => run_loadAgg Tryz.underlying31 rfl (by rw [HI.out, bcs_length, HX3.out]) (HX4.out.of_block (hw'.block _ (by omega)))) ?_
          go_simp
          refine Till.load 9 31 _ ⟨kp, 0, none⟩ (idv nm) rfl rfl rfl rfl (by kernel_rfl) (NoPanic.noFrame _) HSB.out (fun w' hw' => run_loadAgg Tryz.underlying31 rfl (by rw [HI.out, bcs_length, HNM.out]) (HPCZ.out.of_block (hw'.block _ (by omega)))) ?_
          go_simp
          refine Till.act 10 rfl rfl (by kernel_rfl) rfl ?_
          intro K hK
          go_wp2_with (first | (go_at_call 62; refine (refcmp_any x nm HX3.out HNM.out wB).mono ?_; rintro e5 w5 ⟨rfl, hb5⟩))
          have hS5 := HSB.out.trans (hb5.mono (by omega))
          refine hK _ _ hS5 ?_
          clear hK K
          have HBQ := Lib.hid (HBZ.out.trans (hS5.mono (by omega)))
          have hz5q := HBQ.out.size
          clear hb5 hS5
          refine Till.tail _ rfl rfl (by kernel_rfl) (by kernel_rfl) ?_
          by_cases hc : cmpB x nm < 0
          · have hcd : decide (cmpB x nm < 0) = true := by simpa using hc
            go_wp2
            refine NoPanic.normal ?_
            go_wp2
            go_roundw
            case rel =>
              refine ⟨k + 1, by omega, by go_num, Lib.hid ?_, HBQ⟩
              intro j y hj hy
              rcases Nat.lt_or_eq_of_le (Nat.le_of_lt_succ hj) with h1 | h1
              · exact HALL.out j y h1 hy
              · subst h1
                rw [HX1.out] at hy
                rw [← Option.some.inj hy]
                exact hc
            case measure => simp [intOf] <;> omega
          · have hcd : decide (cmpB x nm < 0) = false := by simpa using hc
            go_wp2
            refine NoPanic.normal ?_
            obtain ⟨wI, hwI⟩ : ∃ wI : World, wI = w5 := ⟨_, rfl⟩
            have hbI : Below w2.heap.size w2 wI := by rw [hwI]; exact HBQ.out
            rw [← hwI]
            have hzI := hbI.size
            have HBI := Lib.hid (HB2.out.trans (hbI.mono (by omega)))
            have HPCI := Lib.hid (HPC2.out.of_block (hbI.block _ (by omega)))
            have HSLI := Lib.hid (HSL2.out.below hbI (Nat.le_refl _))
            have HSL5 := Lib.hid ((HSLI.out.below ((Below.refl _ wI).alloc (Nat.le_refl _) (.cells #[] 31)) (Nat.le_refl _)).at_)
            have HOE : Hid (Owns (wI.alloc (.cells #[] 31)) w.heap.size 31 32 (.slice (some ⟨wI.heap.size, 0, none⟩) 0 0) 0 []) := Lib.hid
              ⟨rfl, .inr ⟨wI.heap.size, 0, #[], (0, 0), rfl, by omega, (MapKept.heap_alloc _ _).1, ⟨.inl (Nat.zero_le _), fun _ => rfl⟩, Nat.le_refl _, by unfold maxLen; omega, rfl, rfl⟩⟩
            have HINS := Lib.hid (show insL L nm = L.take k ++ [nm] ++ L.drop k from insL_at hk HALL.out (fun y hy => by rw [HX1.out] at hy; rw [← Option.some.inj hy]; omega))
            clear hwI hbI
            go_upto_region 9 with (first
              | (refine wpList_slice_lo (by rfl) 28 _ _ (by rfl) 31 32 Tryz.underlying28 HI.out _ L.length capL k .i64 (by rfl) (by rfl) hk hcap (pcs L) HPL.out HSL5.out HSPL.out ?_
                 intro A hA1 hA2 hA3
                 have W6 := Lib.hid hA1
                 have W7 := Lib.hid hA2
                 clear hA1 hA2 hA3)
              | (at_builtin; refine wpList_append_G rfl _ _ 28 rfl w.heap.size 31 i0 _ 32 32 Tryz.underlying28 hi hz0 hz1 hz2 (by rfl) (by omega) (.slice (some ⟨wI.heap.size, 0, none⟩) 0 0) 0 [] (by rfl) HOE.out A (L.length - k) (capL - k) ((pcs L).drop (k * 32)) (by rfl) (by rw [List.length_drop, HPL.out]; omega) W6.out W7.out (fun u hu => pcs_one L u (List.mem_of_mem_drop hu)) (by unfold maxLen; omega) (by omega) (by rw [World.size_alloc]; omega) ?_; intro v3 w3 hown3 hg3 hs3; obtain ⟨p3, c3, rfl⟩ := hown3.form))
            rw [Nat.zero_add, List.nil_append] at hown3
            have hb3 : Below wI.heap.size wI w3 := by
              refine ((Below.refl _ wI).alloc (Nat.le_refl _) _).grown hg3 (by simp) (fun r e => ?_)
              have e' : wI.heap.size = r := Option.some.inj e
              omega
            have hz3 := hb3.size
            have HO3 := Lib.hid hown3
            have HB3 := Lib.hid hb3
            have HSL3 := Lib.hid (HSLI.out.below hb3 (Nat.le_refl _))
            have HPC3 := Lib.hid (HPCI.out.of_block (hb3.block _ (by omega)))
            obtain ⟨N3, hN3a, hN3b⟩ : ∃ n, w3.heap.size ≤ n ∧ n ≤ w3.heap.size := ⟨_, Nat.le_refl _, Nat.le_refl _⟩
            clear hown3 hg3 hs3 hb3
            refine wp_region_noPanic ?_
            refine wp_region_till 9 (fun w' => Below N3 w3 w') (by kernel_rfl) (by kernel_rfl) ?_
            obtain ⟨wA, hwA⟩ : ∃ wA, wA = w3.drew := ⟨_, rfl⟩
            have hSwA : Below N3 w3 wA := by rw [hwA]; exact (Below.refl N3 w3).drew
            rw [← hwA]
            have HSA := Lib.hid hSwA
            have hzwA : wA.heap.size = w3.heap.size := by rw [hwA]; rfl
            clear hwA hSwA
            go_simp
            refine Till.pure 0 rfl rfl (by kernel_rfl) (NoPanic.noFrame _) HSA.out ?_
            go_big_quiet_step (fail)
            refine wpQuiet_nil ?_
            refine Till.pure 1 rfl rfl (by kernel_rfl) (NoPanic.noFrame _) HSA.out ?_
            go_big_quiet_step (fail)
            refine wpQuiet_nil ?_
            refine Till.pure 2 rfl rfl (by kernel_rfl) (NoPanic.noFrame _) HSA.out ?_
            go_big_quiet_step (fail)
            refine wpQuiet_nil ?_
            refine Till.full 3 28 _ _ _ rfl rfl rfl 31 32 Tryz.underlying28 HI.out _ L.length capL k .i64 .i64 (by rfl) (by rfl) (by rfl) (by omega) HSPL.out (by kernel_rfl) (NoPanic.noFrame _) HSA.out ?_
            go_simp
            refine Till.load 4 31 _ ⟨kp, 0, none⟩ (idv nm) rfl rfl rfl rfl (by kernel_rfl) (NoPanic.noFrame _) HSA.out (fun w' hw' => run_loadAgg Tryz.underlying31 rfl (by rw [HI.out, bcs_length, HNM.out]) (HPC3.out.of_block (hw'.block _ (by omega)))) ?_
            go_simp
            refine Till.pure 7 rfl rfl (by kernel_rfl) (NoPanic.noFrame _) HSA.out ?_
            go_big_quiet_step (fail)
            refine wpQuiet_nil ?_
            refine Till.act 5 rfl rfl (by kernel_rfl) rfl ?_
            intro K hK
            refine wp_buildOne 28 _ rfl 31 32 _ Tryz.underlying28 HI.out (by omega) (by omega) HZ.out (bcs nm).toArray (by rfl) (by rw [List.size_toArray, bcs_length, HNM.out]) ?_
            have hzA2 : wA.heap.size ≤ (wA.alloc (.cells (bcs nm).toArray 31)).heap.size := by simp
            refine hK _ _ (HSA.out.alloc (by omega) _) ?_
            clear hK K
            refine Till.act 6 rfl rfl (by kernel_rfl) rfl ?_
            intro K hK
            refine wp_append_full _ _ 28 rfl w.heap.size 31 i0 _ 32 32 Tryz.underlying28 hi hz0 hz1 hz2 (by rfl) (by omega) _ k (by rfl) ((pcs L).take (k * 32)) (by rw [List.length_take, HPL.out]; omega) ((HSL3.out.below ((HSA.out.mono hN3a).alloc (by omega) _) (Nat.le_refl _)).at_ |>.take _) HSPL.out ⟨wA.heap.size, 0, none⟩ 1 1 (by rfl) (bcs nm) (by rw [bcs_length, HNM.out])
              (cells_new wA (bcs nm) 31) (bcs_one nm) (by omega) (by unfold maxLen; omega) (by omega) (by rw [World.size_alloc]; omega) ?_
            intro v5 w5 hown5 hg5 hat5
            have hb5 : Below w3.heap.size w3 w5 := ((HSA.out.mono hN3a).alloc (by omega) _).grown hg5 (by rw [World.size_alloc]; omega) (fun r e => by cases e)
            have hz5 := hg5.size
            rw [World.size_alloc] at hz5
            have hob5 : v5.ownBlock = some (wA.heap.size + 1) := by rw [hat5, World.size_alloc]
            refine hK _ _ (hb5.mono (by omega)) ?_
            clear hK K
            have HO5 := Lib.hid (Owns.of hown5)
            have HB5 := Lib.hid hb5
            have HOB5 := Lib.hid hob5
            clear hown5 hg5 hat5 hb5 hob5
            refine Till.act 8 rfl rfl (by kernel_rfl) rfl ?_
            intro K hK
            refine wp_append_G _ _ 28 rfl w.heap.size 31 i0 _ 32 32 Tryz.underlying28 hi hz0 hz1 hz2 (by rfl) (by omega) v5 (k + 1) ((pcs L).take (k * 32) ++ bcs nm) (by rfl) HO5.out p3 (L.length - k) c3 ((pcs L).drop (k * 32)) (by rfl) (by rw [List.length_drop, HPL.out]; omega) (HO3.out.src.below (fun b off e => (HO3.out.at e).2.1) HB5.out) HO3.out.spot (fun u hu => pcs_one L u (List.mem_of_mem_drop hu)) (by unfold maxLen; omega) (by omega) (by omega) ?_
            intro v6 w6 hown6 hg6 hs6
            have hb6 : Below w3.heap.size w3 w6 := HB5.out.grown hg6 (by omega) (fun r e => by rw [HOB5.out] at e; have e' := Option.some.inj e; omega)
            refine hK _ _ (hb6.mono (by omega)) ?_
            clear hK K
            have hz6 := hb6.size
            have hfin : Owns w6 w.heap.size 31 32 v6 (insL L nm).length (pcs (insL L nm)) := by
              have h1 := HINS.out
              rw [insL_length]
              have e1 : k + 1 + (L.length - k) = L.length + 1 := by omega
              rw [e1] at hown6
              have e2 : (pcs L).take (k * 32) ++ bcs nm ++ (pcs L).drop (k * 32) = pcs (insL L nm) := by
                rw [h1, pcs_take HL32.out, pcs_drop HL32.out]
                simp [pcs]
              rw [e2] at hown6
              exact hown6
            have HFIN := Lib.hid hfin
            have HB6 := Lib.hid (HBI.out.trans ((HB3.out.trans (hb6.mono (by omega))).mono (by omega)))
            clear hfin hown6 hg6 hs6 hb6
            refine Till.tail _ rfl rfl (by kernel_rfl) (by kernel_rfl) ?_
            go_wp2
            refine NoPanic.normal ?_
            go_wp2
            go_roundw
            case rel => exact ⟨n + 1, insL L nm, by omega, by go_num, by rw [insL_length]; have := HLEN.out; omega, Lib.hid (by rw [HTK.out, List.foldl_append, HLd.out]; rfl), HFIN, HB6⟩
            case measure => simp [intOf] <;> omega
        · skip
          obtain rfl : k = L.length := by omega
          have hd : ¬ ((L.length : Int) < (L.length : Int)) := by omega
          have hdd : decide ((L.length : Int) < (L.length : Int)) = false := by simp
          go_upto_region 6 with fail
          refine wp_region_noPanic ?_
          refine wp_region_till 11 (fun w' => Below NZ wr w') (by kernel_rfl) (by kernel_rfl) ?_
          obtain ⟨wB, hwB⟩ : ∃ wB, wB = wr.drew := ⟨_, rfl⟩
          have hSwB : Below NZ wr wB := by rw [hwB]; exact (Below.refl NZ wr).drew
          rw [← hwB]
          have HSB := Lib.hid hSwB
          have hzwB : wB.heap.size = wr.heap.size := by rw [hwB]; rfl
          clear hwB hSwB
          go_simp
          refine Till.pure 0 rfl rfl (by kernel_rfl) (NoPanic.noFrame _) HSB.out ?_
          go_big_quiet_step (fail)
          refine wpQuiet_nil ?_
          refine Till.pure 1 rfl rfl (by kernel_rfl) (NoPanic.noFrame _) HSB.out ?_
          go_big_quiet_step (fail)
          refine wpQuiet_nil ?_
          refine Till.act 2 rfl rfl (by kernel_rfl) rfl ?_
          intro K hK
          go_wp2_with fail
          refine hK _ _ HSB.out ?_
          clear hK K
          refine Till.pure 3 rfl rfl (by kernel_rfl) (NoPanic.noFrame _) HSB.out ?_
          go_big_quiet_step (fail)
          refine wpQuiet_nil ?_
          refine Till.pure 4 rfl rfl (by kernel_rfl) (NoPanic.noFrame _) HSB.out ?_
          go_big_quiet_step (fail)
          refine wpQuiet_nil ?_
          refine Till.pass 5 rfl (by rfl) (by kernel_rfl) (NoPanic.noFrame _) HSB.out ?_
          go_simp
          refine Till.pass 6 rfl (by rfl) (by kernel_rfl) (NoPanic.noFrame _) HSB.out ?_
          go_simp
          refine Till.pass 7 rfl (by rfl) (by kernel_rfl) (NoPanic.noFrame _) HSB.out ?_
          go_simp
          refine Till.pass 8 rfl (by rfl) (by kernel_rfl) (NoPanic.noFrame _) HSB.out ?_
          go_simp
          refine Till.pass 9 rfl (by rfl) (by kernel_rfl) (NoPanic.noFrame _) HSB.out ?_
          go_simp
          refine Till.pass 10 rfl (by rfl) (by kernel_rfl) (NoPanic.noFrame _) HSB.out ?_
          go_simp
          have HBQ := Lib.hid (HBZ.out.trans (HSB.out.mono (by omega)))
          refine Till.tail _ rfl rfl (by kernel_rfl) (by kernel_rfl) ?_
          go_wp2
          refine NoPanic.normal ?_
          obtain ⟨wI, hwI⟩ : ∃ wI : World, wI = wB := ⟨_, rfl⟩
          have hbI : Below w2.heap.size w2 wI := by rw [hwI]; exact HBQ.out
          rw [← hwI]
          have hzI := hbI.size
          have HBI := Lib.hid (HB2.out.trans (hbI.mono (by omega)))
          have HPCI := Lib.hid (HPC2.out.of_block (hbI.block _ (by omega)))
          have HSLI := Lib.hid (HSL2.out.below hbI (Nat.le_refl _))
          have HSL5 := Lib.hid ((HSLI.out.below ((Below.refl _ wI).alloc (Nat.le_refl _) (.cells #[] 31)) (Nat.le_refl _)).at_)
          have HOE : Hid (Owns (wI.alloc (.cells #[] 31)) w.heap.size 31 32 (.slice (some ⟨wI.heap.size, 0, none⟩) 0 0) 0 []) := Lib.hid
            ⟨rfl, .inr ⟨wI.heap.size, 0, #[], (0, 0), rfl, by omega, (MapKept.heap_alloc _ _).1, ⟨.inl (Nat.zero_le _), fun _ => rfl⟩, Nat.le_refl _, by unfold maxLen; omega, rfl, rfl⟩⟩
          have HINS := Lib.hid (show insL L nm = L.take L.length ++ [nm] ++ L.drop L.length from insL_at (Nat.le_refl L.length) HALL.out (fun y hy => by simp at hy))
          clear hwI hbI
          go_upto_region 9 with (first
            | (refine wpList_slice_lo (by rfl) 28 _ _ (by rfl) 31 32 Tryz.underlying28 HI.out _ L.length capL L.length .i64 (by rfl) (by rfl) (Nat.le_refl _) hcap (pcs L) HPL.out HSL5.out HSPL.out ?_
               intro A hA1 hA2 hA3
               have W6 := Lib.hid hA1
               have W7 := Lib.hid hA2
               clear hA1 hA2 hA3)
            | (at_builtin; refine wpList_append_G rfl _ _ 28 rfl w.heap.size 31 i0 _ 32 32 Tryz.underlying28 hi hz0 hz1 hz2 (by rfl) (by omega) (.slice (some ⟨wI.heap.size, 0, none⟩) 0 0) 0 [] (by rfl) HOE.out A (L.length - L.length) (capL - L.length) ((pcs L).drop (L.length * 32)) (by rfl) (by rw [List.length_drop, HPL.out]; omega) W6.out W7.out (fun u hu => pcs_one L u (List.mem_of_mem_drop hu)) (by unfold maxLen; omega) (by omega) (by rw [World.size_alloc]; omega) ?_; intro v3 w3 hown3 hg3 hs3; obtain ⟨p3, c3, rfl⟩ := hown3.form))
          rw [Nat.zero_add, List.nil_append] at hown3
          have hb3 : Below wI.heap.size wI w3 := by
            refine ((Below.refl _ wI).alloc (Nat.le_refl _) _).grown hg3 (by simp) (fun r e => ?_)
            have e' : wI.heap.size = r := Option.some.inj e
            omega
          have hz3 := hb3.size
          have HO3 := Lib.hid hown3
          have HB3 := Lib.hid hb3
          have HSL3 := Lib.hid (HSLI.out.below hb3 (Nat.le_refl _))
          have HPC3 := Lib.hid (HPCI.out.of_block (hb3.block _ (by omega)))
          obtain ⟨N3, hN3a, hN3b⟩ : ∃ n, w3.heap.size ≤ n ∧ n ≤ w3.heap.size := ⟨_, Nat.le_refl _, Nat.le_refl _⟩
          clear hown3 hg3 hs3 hb3
          refine wp_region_noPanic ?_
          refine wp_region_till 9 (fun w' => Below N3 w3 w') (by kernel_rfl) (by kernel_rfl) ?_
          obtain ⟨wA, hwA⟩ : ∃ wA, wA = w3.drew := ⟨_, rfl⟩
          have hSwA : Below N3 w3 wA := by rw [hwA]; exact (Below.refl N3 w3).drew
          rw [← hwA]
          have HSA := Lib.hid hSwA
          have hzwA : wA.heap.size = w3.heap.size := by rw [hwA]; rfl
          clear hwA hSwA
          go_simp
          refine Till.pure 0 rfl rfl (by kernel_rfl) (NoPanic.noFrame _) HSA.out ?_
          go_big_quiet_step (fail)
          refine wpQuiet_nil ?_
          refine Till.pure 1 rfl rfl (by kernel_rfl) (NoPanic.noFrame _) HSA.out ?_
          go_big_quiet_step (fail)
          refine wpQuiet_nil ?_
          refine Till.pure 2 rfl rfl (by kernel_rfl) (NoPanic.noFrame _) HSA.out ?_
          go_big_quiet_step (fail)
          refine wpQuiet_nil ?_
          refine Till.full 3 28 _ _ _ rfl rfl rfl 31 32 Tryz.underlying28 HI.out _ L.length capL L.length .i64 .i64 (by rfl) (by rfl) (by rfl) (by omega) HSPL.out (by kernel_rfl) (NoPanic.noFrame _) HSA.out ?_
          go_simp
          refine Till.load 4 31 _ ⟨kp, 0, none⟩ (idv nm) rfl rfl rfl rfl (by kernel_rfl) (NoPanic.noFrame _) HSA.out (fun w' hw' => run_loadAgg Tryz.underlying31 rfl (by rw [HI.out, bcs_length, HNM.out]) (HPC3.out.of_block (hw'.block _ (by omega)))) ?_
          go_simp
          refine Till.pure 7 rfl rfl (by kernel_rfl) (NoPanic.noFrame _) HSA.out ?_
          go_big_quiet_step (fail)
          refine wpQuiet_nil ?_
          refine Till.act 5 rfl rfl (by kernel_rfl) rfl ?_
          intro K hK
          refine wp_buildOne 28 _ rfl 31 32 _ Tryz.underlying28 HI.out (by omega) (by omega) HZ.out (bcs nm).toArray (by rfl) (by rw [List.size_toArray, bcs_length, HNM.out]) ?_
          have hzA2 : wA.heap.size ≤ (wA.alloc (.cells (bcs nm).toArray 31)).heap.size := by simp
          refine hK _ _ (HSA.out.alloc (by omega) _) ?_
          clear hK K
          refine Till.act 6 rfl rfl (by kernel_rfl) rfl ?_
          intro K hK
          refine wp_append_full _ _ 28 rfl w.heap.size 31 i0 _ 32 32 Tryz.underlying28 hi hz0 hz1 hz2 (by rfl) (by omega) _ L.length (by rfl) ((pcs L).take (L.length * 32)) (by rw [List.length_take, HPL.out]; omega) ((HSL3.out.below ((HSA.out.mono hN3a).alloc (by omega) _) (Nat.le_refl _)).at_ |>.take _) HSPL.out ⟨wA.heap.size, 0, none⟩ 1 1 (by rfl) (bcs nm) (by rw [bcs_length, HNM.out])
            (cells_new wA (bcs nm) 31) (bcs_one nm) (by omega) (by unfold maxLen; omega) (by omega) (by rw [World.size_alloc]; omega) ?_
          intro v5 w5 hown5 hg5 hat5
          have hb5 : Below w3.heap.size w3 w5 := ((HSA.out.mono hN3a).alloc (by omega) _).grown hg5 (by rw [World.size_alloc]; omega) (fun r e => by cases e)
          have hz5 := hg5.size
          rw [World.size_alloc] at hz5
          have hob5 : v5.ownBlock = some (wA.heap.size + 1) := by rw [hat5, World.size_alloc]
          refine hK _ _ (hb5.mono (by omega)) ?_
          clear hK K
          have HO5 := Lib.hid (Owns.of hown5)
          have HB5 := Lib.hid hb5
          have HOB5 := Lib.hid hob5
          clear hown5 hg5 hat5 hb5 hob5
          refine Till.act 8 rfl rfl (by kernel_rfl) rfl ?_
          intro K hK
          refine wp_append_G _ _ 28 rfl w.heap.size 31 i0 _ 32 32 Tryz.underlying28 hi hz0 hz1 hz2 (by rfl) (by omega) v5 (L.length + 1) ((pcs L).take (L.length * 32) ++ bcs nm) (by rfl) HO5.out p3 0 c3 ((pcs L).drop (L.length * 32)) (by rfl) (by rw [List.length_drop, HPL.out]; omega) (HO3.out.src.below (fun b off e => (HO3.out.at e).2.1) HB5.out) HO3.out.spot (fun u hu => pcs_one L u (List.mem_of_mem_drop hu)) (by unfold maxLen; omega) (by omega) (by omega) ?_
          intro v6 w6 hown6 hg6 hs6
          have hb6 : Below w3.heap.size w3 w6 := HB5.out.grown hg6 (by omega) (fun r e => by rw [HOB5.out] at e; have e' := Option.some.inj e; omega)
          refine hK _ _ (hb6.mono (by omega)) ?_
          clear hK K
          have hz6 := hb6.size
          have hfin : Owns w6 w.heap.size 31 32 v6 (insL L nm).length (pcs (insL L nm)) := by
            have h1 := HINS.out
            rw [insL_length]
            have e1 : L.length + 1 + 0 = L.length + 1 := by omega
            rw [e1] at hown6
            have e2 : (pcs L).take (L.length * 32) ++ bcs nm ++ (pcs L).drop (L.length * 32) = pcs (insL L nm) := by
              rw [h1, pcs_take HL32.out, pcs_drop HL32.out]
              simp [pcs]
            rw [e2] at hown6
            exact hown6
          have HFIN := Lib.hid hfin
          have HB6 := Lib.hid (HBI.out.trans ((HB3.out.trans (hb6.mono (by omega))).mono (by omega)))
          clear hfin hown6 hg6 hs6 hb6
          refine Till.tail _ rfl rfl (by kernel_rfl) (by kernel_rfl) ?_
          go_wp2
          refine NoPanic.normal ?_
          go_wp2
          go_roundw
          case rel => exact ⟨n + 1, insL L nm, by omega, by go_num, by rw [insL_length]; have := HLEN.out; omega, Lib.hid (by rw [HTK.out, List.foldl_append, HLd.out]; rfl), HFIN, HB6⟩
          case measure => simp [intOf] <;> omega
    · obtain rfl : n = X.length := by omega
      go_wp2
      go_ret
      have hf : risingL X = L := by rw [HLd.out, List.take_length]; rfl
      rw [hf]
      exact ⟨_, rfl, hown.out, hbr.out⟩
end Go.Proofs.YtfoifdhcelcgiaaGreatDoor
