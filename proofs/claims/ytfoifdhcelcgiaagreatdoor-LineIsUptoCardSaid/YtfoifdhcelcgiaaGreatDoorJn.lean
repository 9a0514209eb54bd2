/-
  Names held against names; a set and the document's set, side by side; a nil set.
-/
import Derived.Test.YtfoifdhcelcgiaaGreatDoorJl
/- tribunalref09.Ids: two lists of names are the same. -/
namespace Go.Proofs.YtfoifdhcelcgiaaGreatDoor
open Go Go.RowKit

end Go.Proofs.YtfoifdhcelcgiaaGreatDoor

/- tribunallaw10.same: a set and the document's, of the same operations, are the same. -/
namespace Go.Proofs.YtfoifdhcelcgiaaGreatDoor
open Go Go.RowKit

theorem same_self (o : OpV) (ho : o.Ok) (p q : Option Addr) (c d : Nat) (w : World) (hs : Src w p (pcs o.preds)) (ht : Src w q (pcs o.preds)) :
    Calls Tryz.prog 23 #[.agg (o.cs p c).toArray, .agg (o.cs q d).toArray] w fun e w' => e = .returned (.bool true) ∧ Below w.heap.size w w' := by
  have h := same_any o o ho ho p q c d w hs ht
  rw [decide_eq_true rfl] at h
  exact h
/-- where one of a name lies in the document's set -/
theorem there_ref {O O2 : List E3} (e1 : O2.map E3.ent = O.map E3.ent) (hn : (namesOf (O.map E3.ent)).Nodup) {x : Nm} {o : OpV} (h : There O x o) : ∃ (k : Nat) (e : E3), atI (O2.map (·.n)) x = (k : Int) ∧ k < O2.length ∧ O2[k]? = some e ∧ e.o = o := by
  have hmem : x ∈ O2.map (·.n) := by
    rw [names_ent, e1]
    exact List.mem_map.2 ⟨_, opAt_some h.at_, rfl⟩
  obtain ⟨k, h1, h2, h3, _⟩ := atI_get hmem
  rw [List.length_map] at h2
  rw [List.getElem?_map, List.getElem?_eq_getElem h2] at h3
  refine ⟨k, O2[k], h1, h2, List.getElem?_eq_getElem h2, ?_⟩
  have h4 : (x, (O2[k]).o) ∈ O.map E3.ent := by
    rw [← e1]
    exact List.mem_map.2 ⟨O2[k], List.getElem_mem h2, by rw [← Option.some.inj h3]; rfl⟩
  have h5 := opAt_mem hn h4
  rw [h.at_] at h5
  exact (Option.some.inj h5).symm

end Go.Proofs.YtfoifdhcelcgiaaGreatDoor

/- A nil set: what it answers. -/
namespace Go.Proofs.YtfoifdhcelcgiaaGreatDoor
open Go Go.RowKit

set_option maxRecDepth 100000 in
set_option maxHeartbeats 4000000 in
theorem take_nil (o : OpV) (_ : o.Ok) (p : Option Addr) (c : Nat) (w : World) :
    Calls Tryz.prog 33 #[.pointer none, .agg (o.cs p c).toArray] w fun e w' => e = .returned (.tuple #[.slice none 0 0, .int .i64 2]) ∧ Below w.heap.size w w' := by
  go_enter Tryz.func33, Tryz.ntmps33
  go_wp2_with (first | (refine wpList_boxAgg _ rfl 46 _ rfl (o.cs p c).toArray (by rfl) ?_))
  refine bodyPost_ret (results_tmp2 rfl _ _ _) rfl ?_
  exact ⟨rfl, (Below.refl _ w).alloc (Nat.le_refl _) _⟩
set_option maxRecDepth 100000 in
set_option maxHeartbeats 4000000 in
theorem get_nil (x : Nm) (w : World) :
    Calls Tryz.prog 38 #[.pointer none, idv x] w fun e w' => e = .returned (.tuple #[.agg (zeroOp.cs none 0).toArray, .int .i64 2]) ∧ Below w.heap.size w w' := by
  obtain ⟨hzo, hio⟩ := info_two opZero
  have HZO := Lib.hid hzo
  clear hzo hio
  obtain ⟨w1, hw1⟩ : ∃ w1, w1 = (w.alloc (.cells (bcs x).toArray 31)).alloc (.cells (zeroOp.cs none 0).toArray 46) := ⟨_, rfl⟩
  have HB1 := Lib.hid (show Below w.heap.size w w1 by rw [hw1]; exact ((Below.refl _ w).alloc (Nat.le_refl _) _).alloc (by simp) _)
  have HD1 := Lib.hid (show w1.heap[w.heap.size + 1]? = some (.cells (zeroOp.cs none 0).toArray 46 (0, 0)) by rw [hw1]; exact heap_alloc2 _ _ _)
  go_enter Tryz.func38, Tryz.ntmps38
  go_upto_region 1 with (first
    | (refine wpList_boxAgg _ rfl 31 _ rfl (bcs x).toArray (by rfl) ?_)
    | (refine wpList_allocZ _ rfl 46 rfl _ HZO.out ?_))
  rw [show (w.alloc (.cells (bcs x).toArray 31)).alloc (.cells (zeroOp.cs none 0).toArray 46) = w1 from hw1.symm]
  clear hw1
  go_wp2_with (first
    | (refine wpList_buildZ _ rfl 46 rfl _ (build_op _) ?_)
    | (refine wpList_storeRow rfl 46 _ _ rfl HD1.out (by rfl) (zeroOp.cs none 0).toArray (by rfl) (by rw [opInfo]; rfl) (by rfl) (by simpa using OpV.cs_one zeroOp none 0) ?_; intro w7 hw7 hg7 hs7))
  have hcf : cellsAt w7 (w.heap.size + 1) 0 (zeroOp.cs none 0) := fun j u hj => by rw [cell_of_row _ _ _ _ _ _ hw7, Nat.zero_add]; simpa using hj
  have hbf : Below w.heap.size w w7 := HB1.out.grown hg7 HB1.out.size (fun k e => by have := Option.some.inj e; omega)
  exact bodyPost_ret (results_cell_tmp rfl (by rfl) (run_loadAgg Tryz.underlying46 rfl (by rw [opInfo]; rfl) hcf)) rfl ⟨rfl, hbf⟩
set_option maxRecDepth 100000 in
set_option maxHeartbeats 4000000 in
theorem past_nil (x : Nm) (w : World) : Calls Tryz.prog 11 #[.pointer none, idv x] w fun e w' => e = .returned (.slice none 0 0) ∧ Below w.heap.size w w' := by
  go_enter Tryz.func11, Tryz.ntmps11
  go_wp2_with (first | (refine wpList_boxAgg _ rfl 31 _ rfl (bcs x).toArray (by rfl) ?_))
  go_ret
  exact ⟨rfl, (Below.refl _ w).alloc (Nat.le_refl _) _⟩
end Go.Proofs.YtfoifdhcelcgiaaGreatDoor

/- A set and the document's set, side by side. -/
namespace Go.Proofs.YtfoifdhcelcgiaaGreatDoor
open Go Go.RowKit

theorem info33 : (Tryz.prog.info? 30).map (·.size) = some 32 := by kernel_rfl

structure PairSt (w2 wr : World) (b mo mw mt b2 : Nat) (BD F : Nat → Prop) (O W O2 W2 : List E3) (T : List (Nm × Nat)) (vo vw vn vm : Value) : Prop where
  dag : DagSet wr b mo mw mt BD O W T
  ref : RefSet wr b2 vo vw vn vm F (fun i => i < w2.heap.size) O2 W2
  inv : DInv ⟨O.map E3.ent, W.map E3.ent⟩
  e1 : O2.map E3.ent = O.map E3.ent
  e2 : W2.map E3.ent = W.map E3.ent
  bd : ∀ i, BD i → w2.heap.size ≤ i ∧ i < wr.heap.size ∧ ¬ F i
  fn : ∀ i, F i → w2.heap.size ≤ i
  keep : Below w2.heap.size w2 wr
section
variable {w2 wr wx w5 w6 : World} {b mo mw mt b2 : Nat} {BD F BD' F' : Nat → Prop} {O W O2 W2 O' W' O2' W2' : List E3} {T T' : List (Nm × Nat)} {vo vw vn vm vo' vw' vn' vm' : Value}
theorem PairSt.under (h : PairSt w2 wr b mo mw mt b2 BD F O W O2 W2 T vo vw vn vm) (hb : Below wr.heap.size wr wx) : PairSt w2 wx b mo mw mt b2 BD F O W O2 W2 T vo vw vn vm :=
  ⟨h.dag.under hb, h.ref.under hb, h.inv, h.e1, h.e2, fun i hi => ⟨(h.bd i hi).1, Nat.lt_of_lt_of_le (h.bd i hi).2.1 hb.size, (h.bd i hi).2.2⟩, h.fn, h.keep.trans (hb.mono h.keep.size)⟩
theorem PairSt.three (h : PairSt w2 wr b mo mw mt b2 BD F O W O2 W2 T vo vw vn vm) : ∀ i, threeB mo mw mt i → BD i := fun i hi => by
  rcases hi with rfl | rfl | rfl
  · exact h.dag.inB.2.1
  · exact h.dag.inB.2.2.1
  · exact h.dag.inB.2.2.2
theorem PairSt.refAt (h : PairSt w2 wr b mo mw mt b2 BD F O W O2 W2 T vo vw vn vm) (hk : Keeps (threeB mo mw mt) wr w5) : RefSet w5 b2 vo vw vn vm F (fun i => i < w2.heap.size) O2 W2 :=
  h.ref.keeps hk.size (fun i hi hFB => hk.block i hi (fun h3 => by
    have h4 := h.bd i (h.three i h3)
    exact hFB.elim h4.2.2 (fun h5 => by have := h4.1; omega)))
theorem PairSt.take (h : PairSt w2 wr b mo mw mt b2 BD F O W O2 W2 T vo vw vn vm) (hd : DagSet w5 b mo mw mt BD' O' W' T') (hB : ∀ i, BD' i → (BD i ∨ wr.heap.size ≤ i) ∧ i < w5.heap.size) (hk : Keeps (threeB mo mw mt) wr w5)
    (hr : RefSet w6 b2 vo' vw' vn' vm' F' (fun i => i < w2.heap.size) O2' W2') (hF : ∀ i, F' i → F i ∨ w5.heap.size ≤ i) (hk2 : Keeps F w5 w6) (hinv : DInv ⟨O'.map E3.ent, W'.map E3.ent⟩) (e1 : O2'.map E3.ent = O'.map E3.ent) (e2 : W2'.map E3.ent = W'.map E3.ent) :
    PairSt w2 w6 b mo mw mt b2 BD' F' O' W' O2' W2' T' vo' vw' vn' vm' := by
  have hz := h.keep.size
  have hnF : ∀ i, BD' i → ¬ F i := fun i hi hf => (hB i hi).1.elim (fun h1 => (h.bd i h1).2.2 hf) (fun h1 => by have := h.ref.flt i hf; omega)
  refine ⟨hd.keeps hk2.size (fun i hi hb => hk2.block i hi (hnF i hb)), hr, hinv, e1, e2, fun i hi => ⟨?_, Nat.lt_of_lt_of_le (hB i hi).2 hk2.size, fun hf => ?_⟩, fun i hi => ?_, ?_⟩
  · exact (hB i hi).1.elim (fun h1 => (h.bd i h1).1) (fun h1 => by omega)
  · exact (hF i hf).elim (hnF i hi) (fun h1 => by have := (hB i hi).2; omega)
  · exact (hF i hi).elim (h.fn i) (fun h1 => by have := hk.size; omega)
  · exact (h.keep.trans (hk.toBelow hz (fun i hi h3 => by have := (h.bd i (h.three i h3)).1; omega))).trans (hk2.toBelow (Nat.le_trans hz hk.size) (fun i hi hf => by have := h.fn i hf; omega))
end

/-! ### what comes is there -/
theorem putD_names (s : DS) (out : List Nm) (e : NOp) (h : ∀ x ∈ out, x ∈ namesOf s.ops) : ∀ x ∈ (putD s out e).2, x ∈ namesOf (putD s out e).1.ops := by
  unfold putD
  split
  · intro x hx
    simp only [namesOf, List.map_append, List.mem_append, List.map_cons, List.map_nil] at hx ⊢
    exact hx.imp (fun h1 => h x h1) id
  · exact h
theorem drain_names : ∀ (f : Nat) (s : DS) (out : List Nm), (∀ x ∈ out, x ∈ namesOf s.ops) → ∀ x ∈ (drain f s out).2, x ∈ namesOf (drain f s out).1.ops
  | 0, _, _, h => h
  | f + 1, s, out, h => by
    rw [drain]
    cases hb : bestI s.ops s.wait s.wait.length with
    | none => exact h
    | some i =>
      obtain ⟨h1, e, he, hw⟩ := bestI_some hb
      simp only [he]
      exact drain_names f _ _ (putD_names ⟨s.ops, s.wait.eraseIdx i⟩ out e h)
theorem takeD_names (s : DS) (o : OpV) : ∀ x ∈ (takeD s o).2.1, x ∈ namesOf (takeD s o).1.ops := by
  unfold takeD
  split
  · split
    · simp
    · split
      · simp
      · split
        · exact drain_names _ _ _ (by simp [namesOf])
        · simp
  · simp
theorem drain_outlen : ∀ (f : Nat) (s : DS) (out : List Nm), (drain f s out).2.length ≤ out.length + f
  | 0, _, out => Nat.le_refl _
  | f + 1, s, out => by
    rw [drain]
    cases hb : bestI s.ops s.wait s.wait.length with
    | none => simp only; omega
    | some i =>
      obtain ⟨h1, e, he, hw⟩ := bestI_some hb
      simp only [he]
      have h2 := drain_outlen f (putD ⟨s.ops, s.wait.eraseIdx i⟩ out e).1 (putD ⟨s.ops, s.wait.eraseIdx i⟩ out e).2
      have h3 : (putD ⟨s.ops, s.wait.eraseIdx i⟩ out e).2.length ≤ out.length + 1 := by
        unfold putD
        split <;> simp
      omega
theorem takeD_outlen (s : DS) (o : OpV) : (takeD s o).2.1.length ≤ 1 + s.wait.length := by
  unfold takeD
  split
  · split
    · simp
    · split
      · simp
      · split
        · exact drain_outlen _ _ _
        · simp
  · simp
theorem nextD_w (s : DS) (a : Int) (d : Dr) : (nextD s a d).1.preds.length ≤ 32 := by
  unfold nextD
  split
  · simp [zeroOp]
  · split
    · simp [zeroOp]
    · simp only
      omega
end Go.Proofs.YtfoifdhcelcgiaaGreatDoor
