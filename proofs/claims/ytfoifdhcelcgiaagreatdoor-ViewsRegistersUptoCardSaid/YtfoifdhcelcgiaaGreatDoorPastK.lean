/-
  THE NAMES IN A MAP OF BOOLS, KEYED BY api.Id: sorted, in a new slice.
-/
import Derived.Test.YtfoifdhcelcgiaaGreatDoorJg
namespace Go.Proofs.YtfoifdhcelcgiaaGreatDoor
open Go Go.RowKit Go.Shelf Go.Sort
attribute [local go_sem] Oper.semAt_some

set_option maxRecDepth 100000 in
set_option maxHeartbeats 4000000 in
theorem nkeys1B_in {β : Type} (F : Fence) (n : Nat) (h32 : F.fn 74) (hro : F.round = none) (hn : 1 ≤ n) (l Bm b : Nat) (L : List β) (kf : β → Id32) (vf : β → Value) (J Jx : List Id32 → World → Prop)
    (W : World) (hJ : AbidesFrom W.heap.size J)
    (hY : ∀ pre x W1, J pre W1 → pre.length < L.length → YieldAt F (n - 1) Tryz.prog l #[idv x.1] W1 fun e W' =>
      (e = .returned (.bool true) ∧ J (pre ++ [x]) W' ∧ KeepsWalks W1 W') ∨ (e = .returned (.bool false) ∧ Jx (pre ++ [x]) W'))
    (hm : W.cell? ⟨Bm, 0, none⟩ = some (.map (some b))) (hown : hasMap Tryz.prog 31 W b (L.map fun x => (idv (kf x).1, vf x))) (h0 : J [] W) :
    CallsIn F n Tryz.prog 74 #[.func (.yield l) #[] #[], .pointer (some ⟨Bm, 0, none⟩)] W fun e W' => (∃ v, e = .returned v) ∧
      ((∃ xs, xs.Perm (L.map kf) ∧ J xs W') ∨ (∃ pre : List Id32, True ∧ Jx pre W')) := by
  obtain ⟨hz, hid⟩ := info_two idInfo
  have HZ := Lib.hid hz
  have HI := Lib.hid hid
  clear hz hid
  refine callsIn_of_wp Tryz.func74 rfl h32 ?_ hro
  simp only [Tryz.ntmps74, List.size_toArray, List.length_cons, List.length_nil, Nat.reduceAdd, Nat.reduceSub, Array.replicate_succ, Array.replicate_zero, List.push_toArray, List.append_toArray, List.nil_append, List.cons_append]
  gi_wp2_with (first
    | (gi_at_range; refine wpListIn_rangeL _ rfl _ 76 rfl 31 4 Tryz.underlying76 b _ rfl hown ?_; intro w0 hrg0 hg0 hs0)
    | gi_in)
  go_frame
  gi_loopw [3] (fun _ wr => ∃ (left : List β) (ss : List Id32), iterOn Tryz.prog 31 wr W.heap.size b (L.map fun x => (idv (kf x).1, vf x)) (left.map fun x => (idv (kf x).1, vf x)) ∧ (L.map kf).Perm (ss ++ left.map kf) ∧ (∀ x ∈ left, x ∈ L) ∧ J ss wr)
    (fun _ wr => wr.rangeLeft b W.heap.size)
  case atStart =>
    exact ⟨L, [], hrg0, by simp, fun x hx => hx, hJ [] W w0 none h0 hg0 (fun r e => by cases e)⟩
  case round =>
    obtain ⟨left, ss, hrg, hp, hsub, hJs⟩ := hrel
    gi_wp2_with (first
      | (gi_at_next; refine wpListIn_nextL _ rfl _ rfl 31 (fun x => idv (kf x).1) vf W.heap.size b _ left rfl hrg ?_ ?_)
      | gi_in)
    · intro hl0
      gi_wp2
      go_end0
      subst hl0
      exact ⟨⟨_, rfl⟩, .inl ⟨ss, by simpa using hp.symm, hJs⟩⟩
    · intro x left' w2 hperm hrg2 hg2 hs2 hen
      have h32x : (kf x).1.length = 32 := (kf x).2
      have hsub' : ∀ y ∈ left', y ∈ L := fun y hy => hsub y (hperm.mem_iff.2 (by simp [hy]))
      have hJ2 : J ss w2 := hJ ss wr w2 (some W.heap.size) hJs hg2 (fun r e => by cases e; exact ⟨Nat.le_refl _, hrg.iter_walk⟩)
      have hJ3 : J ss (w2.alloc (.cells (bcs (kf x).1).toArray 31)) := hJ ss w2 _ none hJ2 (World.grownBy_alloc _ _ _) (fun r e => by cases e)
      have hlen : ss.length < L.length := by
        have h1 := hp.length_eq
        have h2 := hperm.length_eq
        simp at h1 h2
        omega
      obtain ⟨fn, tmps, assign, body, hy, hR⟩ := hY ss (kf x) _ hJ3 hlen
      have hrg3 : iterOn Tryz.prog 31 (w2.alloc (.cells (bcs (kf x).1).toArray 31)) W.heap.size b (L.map fun x => (idv (kf x).1, vf x)) (left'.map fun x => (idv (kf x).1, vf x)) :=
        hrg2.of_walks (KeepsWalks.alloc _ _)
      have hca := Lib.hid (show cellsAt (w2.alloc (.cells (bcs (kf x).1).toArray 31)) w2.heap.size 0 (bcs (kf x).1) by simpa using cellsAt_new w2 (bcs (kf x).1).toArray 31)
      have HX := Lib.hid h32x
      have HZX := Lib.hid (show (fillB [] 32).size = (bcs (kf x).1).toArray.size by rw [show (bcs (kf x).1).toArray.size = (bcs (kf x).1).length from rfl, bcs_length, h32x]; rfl)
      clear hs2 h32x
      gi_wp2_with (first
        | (refine wpListIn_allocZ _ rfl 31 rfl _ HZ.out ?_)
        | (refine wpListIn_storeNew _ w2 rfl 31 _ _ rfl (fillB [] 32) rfl (by rfl) (bcs (kf x).1).toArray (by rfl) (by rw [HI.out, List.size_toArray, bcs_length, HX.out]) HZX.out (by simpa using bcs_one (kf x)) ?_)
        | (refine wpListIn_loadAgg _ rfl 31 _ rfl _ Tryz.underlying31 rfl w2.heap.size 0 (by rfl) (bcs (kf x).1) (by rw [HI.out, bcs_length, HX.out]) hca.out ?_)
        | gi_in)
      refine hR.mono ?_
      rintro e W3 (⟨rfl, hJ3', hk3⟩ | ⟨rfl, hJx⟩)
      · gi_wp2
        have hrg4 := hrg3.of_walks hk3
        go_roundw
        case rel => exact ⟨left', ss ++ [kf x], hrg4, by rw [List.append_assoc]; refine hp.trans (List.Perm.append_left _ ?_); simpa using hperm.map kf, hsub', hJ3'⟩
        case measure =>
          rw [hrg4.left_eq, hrg.left_eq]
          have h2 := hperm.length_eq
          simp at h2 ⊢
          omega
      · gi_wp2
        refine bodyPost_ret (results_none rfl _ _ _) rfl ?_
        exact ⟨⟨_, rfl⟩, .inr ⟨_, trivial, hJx⟩⟩

theorem nkeysB_stops {β : Type} (F : Fence) (n : Nat) (h32 : F.fn 74) (hro : F.round = none) (hn : 1 ≤ n) (Bm b : Nat) (L : List β) (kf : β → Id32) (vf : β → Value) (w : World) (hBm : Bm < w.heap.size)
    (hm : w.cell? ⟨Bm, 0, none⟩ = some (.map (some b))) (hown : hasMap Tryz.prog 31 w b (L.map fun x => (idv (kf x).1, vf x))) :
    SeqStopsK F n Tryz.prog 74 #[.pointer (some ⟨Bm, 0, none⟩)] (fun x => #[idv x.1]) KeepsWalks (fun xs => xs.Perm (L.map kf)) (fun _ => True) L.length w :=
  fun l J Jx W hW hJ _ hY h0 =>
    nkeys1B_in F n h32 hro hn l Bm b L kf vf J Jx W hJ hY ((hW.cell (p := ⟨Bm, 0, none⟩) hBm).trans hm) (hown.of_block (hW.block b hown.lt)) h0

set_option maxRecDepth 100000 in
set_option maxHeartbeats 1000000 in
theorem nsortedB_in {β : Type} (b : Nat) (L : List β) (kf : β → Id32) (vf : β → Value) (w : World) (Bm : Nat) (hBm : Bm < w.heap.size) (hL : L.length * 32 ≤ 140737488355328)
    (hm : w.cell? ⟨Bm, 0, none⟩ = some (.map (some b))) (hown : hasMap Tryz.prog 31 w b (L.map fun x => (idv (kf x).1, vf x))) :
    Calls Tryz.prog 43 #[.func (.func 74) #[] #[.pointer (some ⟨Bm, 0, none⟩)], .func (.func 41) #[] #[]] w fun e w' =>
      ∃ (v : Value) (xs : List (Id32)), e = .returned v ∧ xs.Perm (L.map kf) ∧ w'.ownsRow w.heap.size 31 32 v (ksort xs).length ((ksort xs).flatMap benc) ∧ Below w.heap.size w w' := by
  have hc : Calls Tryz.prog 73 #[.func (.func 74) #[] #[.pointer (some ⟨Bm, 0, none⟩)]] w fun e w' => ∃ (v : Value) (xs : List (Id32)), e = .returned v ∧ xs.Perm (L.map kf) ∧ w'.ownsRow w.heap.size 31 32 v xs.length (xs.flatMap benc) ∧ Below w.heap.size w w' := by
    refine (callsIn_wide (n := 9)).1 ?_
    refine callsIn_of_wp Tryz.func73 rfl trivial ?_ rfl
    simp only [Tryz.ntmps73, List.size_toArray, List.length_cons, List.length_nil, Nat.reduceAdd, Nat.reduceSub, Array.replicate_succ, Array.replicate_zero, List.push_toArray, List.append_toArray, List.nil_append, List.cons_append]
    have hfA : Fence.wide.fn 101 := trivial
    gi_wp2_with (gi_at_call 101; refine (nappendSeq_in Fence.wide 8 trivial rfl (by omega) _ _ trivial (enters_of Tryz.func74 (by kernel_rfl) rfl) _ L.length (by unfold maxLen; omega) hL w (nkeysB_stops Fence.wide 7 trivial rfl (by omega) Bm b L kf vf w hBm hm hown)).mono ?_; rintro e w' ⟨v, xs, rfl, hS, hrow, hb⟩)
    go_ret
    exact ⟨v, xs, rfl, hS, hrow, hb⟩
  have eg : ∀ args w, (callFunc 41 args).run Tryz.prog w = .ok (.enter 41 args) w := enters_of Tryz.func41 (by kernel_rfl) rfl
  go_enter Tryz.func43, Tryz.ntmps43
  go_wp2_with (go_at_call 73; refine hc.mono ?_; rintro e w1 ⟨v, xs, rfl, hS, hrow, hb⟩)
  have hlen : xs.length = L.length := by rw [hS.length_eq]; simp
  cases xs with
  | nil =>
    obtain ⟨p, cap, rfl⟩ : ∃ p cap, v = .slice p 0 cap := by
      rcases hrow.2 with ⟨h, _⟩ | ⟨g, cap, cur, h, _⟩
      · exact ⟨_, _, h⟩
      · exact ⟨_, _, h⟩
    have hs := AnyF.slices_SortFunc_none Tryz.sortId p cap (.func (.func 41) #[] #[]) w1
    change Calls Tryz.prog 39 _ _ _ at hs
    go_wp2_with (go_at_call 39; refine hs.mono ?_; rintro e w' ⟨rfl, rfl⟩)
    go_ret
    exact ⟨_, [], rfl, hS, by simpa [ksort] using hrow, hb⟩
  | cons a r =>
    obtain ⟨g, cap, rfl⟩ := ownsRow_succ hrow
    obtain ⟨hH, hg0, hg1, -⟩ := holdsK_of_owns (enc := benc) benc_length hrow
    have hs := AnyQ.slices_SortFunc_total Tryz.sortId 32 isAggId sizeId benc benc_length (fun x v hv => bcs_one x.1 v hv) korder korder_swo 41 #[] g 0 cap (a :: r).toArray w1 eg (fun _ _ _ _ x y => ncmp_grow x y _) hH hg1 (by simp at hlen ⊢; omega) korder_total
    change Calls Tryz.prog 39 _ _ _ at hs
    clear hH
    have hk : (ksort (a :: r)).length = (a :: r).length := by simp [ksort]
    simp only [List.size_toArray, List.length_cons] at hs
    go_wp2_with (go_at_call 39; refine hs.mono ?_; rintro e w' ⟨rfl, n, os, rfl⟩)
    go_ret
    refine ⟨_, a :: r, rfl, hS, ?_, ?_⟩
    · exact owns_of_sort (enc := benc) benc_length hrow hk n os
    · exact hb.trans ((below_of_sort (l' := ksort (a :: r)) hg1).mono hg0)

theorem keysfnB_any (m : Nat) (w : World) : Calls Tryz.prog 44 #[.map (some m)] w fun e w' =>
    e = .returned (.func (.func 74) #[] #[.pointer (some ⟨w.heap.size, 0, none⟩)]) ∧ w' = w.alloc (.cells #[.map (some m)] 76) := by
  go_enter Tryz.func44, Tryz.ntmps44
  go_wp2
  go_ret
  exact ⟨rfl, rfl⟩

/-- the names of a map of bools, in their order, in a new slice -/
theorem bnames_any (b : Nat) (S : List Nm) (h32 : ∀ x ∈ S, x.length = 32) (w : World) (Bm : Nat) (hBm : Bm < w.heap.size) (hL : S.length ≤ 1000000000)
    (hm : w.cell? ⟨Bm, 0, none⟩ = some (.map (some b))) (hown : hasMap Tryz.prog 31 w b (S.map fun x => (idv x, .bool true))) :
    Calls Tryz.prog 43 #[.func (.func 74) #[] #[.pointer (some ⟨Bm, 0, none⟩)], .func (.func 41) #[] #[]] w fun e w' =>
      ∃ v, e = .returned v ∧ Owns w' w.heap.size 31 32 v (nsort S).length (pcs (nsort S)) ∧ Below w.heap.size w w' := by
  have e1 : (S.attachWith (fun e => e.length = 32) h32).map (fun x => (idv x.1, Value.bool true)) = S.map fun x => (idv x, Value.bool true) := by
    rw [show (fun x : { e : Nm // e.length = 32 } => (idv x.1, Value.bool true)) = (fun x => (idv x, Value.bool true)) ∘ Subtype.val from rfl, ← List.map_map, List.attachWith_map_subtype_val]
  refine (nsortedB_in b (S.attachWith (fun e => e.length = 32) h32) (fun x => x) (fun _ => Value.bool true) w Bm hBm (by simp; omega) hm (by rw [e1]; exact hown)).mono ?_
  rintro e w' ⟨v, xs, rfl, hp, hrow, hb⟩
  have e2 : (ksort xs).map (·.1) = nsort S := by
    rw [ksort_names]
    refine nsort_of_perm ((hp.map _).trans ?_)
    rw [List.map_map, show ((fun x : Id32 => x.1) ∘ fun x : { e : Nm // e.length = 32 } => x) = Subtype.val from rfl, List.attachWith_map_subtype_val]
  refine ⟨v, rfl, ?_, hb⟩
  have := Owns.of hrow
  rw [benc_pcs, e2] at this
  rw [← e2, List.length_map, e2]
  exact this
end Go.Proofs.YtfoifdhcelcgiaaGreatDoor
