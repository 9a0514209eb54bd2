/-
  Names, and what waits.
-/
import Derived.Test.YtfoifdhcelcgiaaGreatDoorJf
import Derived.Test.YtfoifdhcelcgiaaGreatDoorJc
import Derived.Test.YtfoifdhcelcgiaaGreatDoorLay
import Derived.Test.YtfoifdhcelcgiaaGreatDoorJe
import Derived.Deep.QuietTactic
import Derived.BigQuiet
import Derived.Deep.DeepFit
/- slices.SortedFunc(maps.Keys(m), op.Compare) AT A MAP KEYED BY api.Id: its names in their order. -/
namespace Go.Proofs.YtfoifdhcelcgiaaGreatDoor
open Go Go.RowKit Go.Shelf Go.Sort

set_option maxRecDepth 100000 in
set_option maxHeartbeats 2000000 in
theorem opcmp_exact (x y : List UInt8) (hx : x.length = 32) (hy : y.length = 32) (w : World) :
    Calls Tryz.prog 41 #[idv x, idv y] w fun e w' => e = .returned (.int .i64 (cmpB x y)) ∧ w' = ((w.alloc (.cells (bcs x).toArray 31)).alloc (.cells (bcs y).toArray 31)).drew := by
  obtain ⟨w1, hw1⟩ : ∃ w1, w1 = (w.alloc (.cells (bcs x).toArray 31)).alloc (.cells (bcs y).toArray 31) := ⟨_, rfl⟩
  have hb1 : Below w.heap.size w w1 := by rw [hw1]; exact ((Below.refl _ w).alloc (Nat.le_refl _) _).alloc (by simp) _
  have hs1 : SrcAt w1 (some ⟨w.heap.size, 0, none⟩) (bcs x) := by rw [hw1]; exact (src_new w (bcs x) 31).of_block (fun b off e => by cases e; exact (MapKept.heap_alloc _ _).2 _ (by simp))
  have hs2 : SrcAt w1 (some ⟨w.heap.size + 1, 0, none⟩) (bcs y) := by rw [hw1]; simpa using src_new (w.alloc (.cells (bcs x).toArray 31)) (bcs y) 31
  have HB := Lib.hid hb1
  have H1 := Lib.hid hs1
  have H2 := Lib.hid hs2
  have HX := Lib.hid hx
  have HY := Lib.hid hy
  have HW := Lib.hid hw1
  clear hb1 hs1 hs2 hx hy
  go_enter Tryz.func41, Tryz.ntmps41
  go_upto_region 1 with (first
    | (refine wpList_boxAgg _ rfl 31 _ rfl (bcs x).toArray (by rfl) ?_)
    | (refine wpList_boxAgg _ rfl 31 _ rfl (bcs y).toArray (by rfl) ?_))
  rw [show (w.alloc (.cells (bcs x).toArray 31)).alloc (.cells (bcs y).toArray 31) = w1 from hw1.symm]
  clear hw1
  refine wp_region_tail 2 (by kernel_rfl) (by kernel_rfl) ?_
  simp only [List.take_succ_cons, List.take_zero, List.drop_succ_cons, List.drop_zero]
  repeat still_step
  refine wpStill_nil ?_
  obtain ⟨w2, hw2⟩ : ∃ w2, w2 = w1.drew := ⟨_, rfl⟩
  have hcall := bytescmp_any (some ⟨w.heap.size, 0, none⟩) (some ⟨w.heap.size + 1, 0, none⟩) x y 32 32 w2 (by rw [hw2]; exact H1.out) (fun a e => by cases e; rfl) (by rw [hw2]; exact H2.out) (fun a e => by cases e; rfl)
  have HW2 := Lib.hid hw2
  rw [HX.out, HY.out] at hcall
  rw [← hw2]
  clear hw2
  go_wp2_with fail
  refine hcall.mono ?_
  rintro e w3 ⟨rfl, rfl⟩
  clear hcall
  go_wp2
  go_ret
  exact ⟨rfl, by rw [HW2.out, HW.out]⟩

theorem ncmp_grow (x y : Id32) (w : World) : Calls Tryz.prog 41 #[idv x.1, idv y.1] w fun e w' => e = .returned (.int .i64 (cmpB x.1 y.1)) ∧ ∃ q os, w' = grow (w.drewN q) os :=
  (opcmp_exact x.1 y.1 x.2 y.2 w).mono fun e w' h => by
    obtain ⟨h1, rfl⟩ := h
    exact ⟨h1, 1, _, by rw [alloc_eq_grow, alloc_eq_grow, grow_grow]; rfl⟩

def korder (x y : Id32) : Int := cmpB x.1 y.1
theorem korder_swo : SWO (ltOf korder) where
  irrefl x := cmpB_swo.irrefl x.1
  trans x y z := cmpB_swo.trans x.1 y.1 z.1
  ntrans x y z := cmpB_swo.ntrans x.1 y.1 z.1
theorem korder_total (x y : Id32) (h1 : ltOf korder x y = false) (h2 : ltOf korder y x = false) : x = y := Subtype.ext (cmpB_total x.1 y.1 h1 h2)

theorem isAggId (w : World) : (isAgg 31).run Tryz.prog w = .ok true w := by kernel_rfl
theorem sizeId (w : World) : (Go.sizeOf 31).run Tryz.prog w = .ok 32 w := by kernel_rfl

/-- the keys, in their order -/
def ksort (l : List (Id32)) : List (Id32) := l.mergeSort fun x y => !(ltOf korder y x)

set_option maxRecDepth 100000 in
set_option maxHeartbeats 1000000 in
theorem nsorted_in {β : Type} (b : Nat) (L : List β) (kf : β → Id32) (vf : β → Value) (w : World) (Bm : Nat) (hBm : Bm < w.heap.size) (hL : L.length * 32 ≤ 140737488355328)
    (hm : w.cell? ⟨Bm, 0, none⟩ = some (.map (some b))) (hown : hasMap Tryz.prog 31 w b (L.map fun x => (idv (kf x).1, vf x))) :
    Calls Tryz.prog 43 #[.func (.func 89) #[] #[.pointer (some ⟨Bm, 0, none⟩)], .func (.func 41) #[] #[]] w fun e w' =>
      ∃ (v : Value) (xs : List (Id32)), e = .returned v ∧ xs.Perm (L.map kf) ∧ w'.ownsRow w.heap.size 31 32 v (ksort xs).length ((ksort xs).flatMap benc) ∧ Below w.heap.size w w' := by
  have hc : Calls Tryz.prog 73 #[.func (.func 89) #[] #[.pointer (some ⟨Bm, 0, none⟩)]] w fun e w' => ∃ (v : Value) (xs : List (Id32)), e = .returned v ∧ xs.Perm (L.map kf) ∧ w'.ownsRow w.heap.size 31 32 v xs.length (xs.flatMap benc) ∧ Below w.heap.size w w' := by
    refine (callsIn_wide (n := 9)).1 ?_
    refine callsIn_of_wp Tryz.func73 rfl trivial ?_ rfl
    simp only [Tryz.ntmps73, List.size_toArray, List.length_cons, List.length_nil, Nat.reduceAdd, Nat.reduceSub, Array.replicate_succ, Array.replicate_zero, List.push_toArray, List.append_toArray, List.nil_append, List.cons_append]
    have hfA : Fence.wide.fn 101 := trivial
    gi_wp2_with (gi_at_call 101; refine (nappendSeq_in Fence.wide 8 trivial rfl (by omega) _ _ trivial (enters_of Tryz.func89 (by kernel_rfl) rfl) _ L.length (by unfold maxLen; omega) hL w (nkeys_stops Fence.wide 7 trivial rfl (by omega) Bm b L kf vf w hBm hm hown)).mono ?_; rintro e w' ⟨v, xs, rfl, hS, hrow, hb⟩)
    go_ret
    exact ⟨v, xs, rfl, hS, hrow, hb⟩
  have eg : ∀ args w, (callFunc 41 args).run Tryz.prog w = .ok (.enter 41 args) w := enters_of Tryz.func41 (by kernel_rfl) rfl
  go_enter Tryz.func43, Tryz.ntmps43
  go_wp2_with (go_at_call 73; refine hc.mono ?_; rintro e w1 ⟨v, xs, rfl, hS, hrow, hb⟩)
  have hlen : xs.length = L.length := by rw [hS.length_eq]; simp
  cases xs with
  | nil =>
    obtain ⟨p, cap, rfl⟩ : ∃ p cap, v = .slice p 0 cap := by
      rcases hrow.2 with ⟨h, _⟩ | ⟨g, cap, cur, h, _⟩
      · exact ⟨_, _, h⟩
      · exact ⟨_, _, h⟩
    have hs := AnyF.slices_SortFunc_none Tryz.sortId p cap (.func (.func 41) #[] #[]) w1
    change Calls Tryz.prog 39 _ _ _ at hs
    go_wp2_with (go_at_call 39; refine hs.mono ?_; rintro e w' ⟨rfl, rfl⟩)
    go_ret
    exact ⟨_, [], rfl, hS, by simpa [ksort] using hrow, hb⟩
  | cons a r =>
    obtain ⟨g, cap, rfl⟩ := ownsRow_succ hrow
    obtain ⟨hH, hg0, hg1, -⟩ := holdsK_of_owns (enc := benc) benc_length hrow
    have hs := AnyQ.slices_SortFunc_total Tryz.sortId 32 isAggId sizeId benc benc_length (fun x v hv => bcs_one x.1 v hv) korder korder_swo 41 #[] g 0 cap (a :: r).toArray w1 eg (fun _ _ _ _ x y => ncmp_grow x y _) hH hg1 (by simp at hlen ⊢; omega) korder_total
    change Calls Tryz.prog 39 _ _ _ at hs
    clear hH
    have hk : (ksort (a :: r)).length = (a :: r).length := by simp [ksort]
    simp only [List.size_toArray, List.length_cons] at hs
    go_wp2_with (go_at_call 39; refine hs.mono ?_; rintro e w' ⟨rfl, n, os, rfl⟩)
    go_ret
    refine ⟨_, a :: r, rfl, hS, ?_, ?_⟩
    · exact owns_of_sort (enc := benc) benc_length hrow hk n os
    · exact hb.trans ((below_of_sort (l' := ksort (a :: r)) hg1).mono hg0)

theorem ksort_names (l : List Id32) : (ksort l).map (·.1) = nsort (l.map (·.1)) := by
  refine sorted_unique (((List.mergeSort_perm _ _).map _).trans (nsort_perm _).symm) ?_ (nsort_pairwise _)
  have := List.pairwise_mergeSort (le := fun x y : Id32 => !(ltOf korder y x))
    (fun a b c h1 h2 => by
      simp only [Bool.not_eq_true'] at h1 h2 ⊢
      exact korder_swo.ntrans c b a h2 h1)
    (fun a b => by
      have h4 := cmpB_swap b.1 a.1
      show ((!(decide (cmpB b.1 a.1 < 0))) || (!(decide (cmpB a.1 b.1 < 0)))) = true
      rw [Bool.or_eq_true, Bool.not_eq_true', Bool.not_eq_true', decide_eq_false_iff_not, decide_eq_false_iff_not]
      omega) l
  exact List.pairwise_map.2 (this.imp (fun {a b} h => by
    have h' : (!(decide (cmpB b.1 a.1 < 0))) = true := h
    rw [Bool.not_eq_true', decide_eq_false_iff_not] at h'
    exact h'))
theorem benc_pcs (l : List Id32) : l.flatMap benc = pcs (l.map (·.1)) := by
  induction l with
  | nil => rfl
  | cons a r ih => rw [List.flatMap_cons, ih]; rfl

/-- the names of what is kept, in their order, in a new slice -/
theorem snames_any (b : Nat) (O : List E3) (h32 : ∀ e ∈ O, e.n.length = 32) (w : World) (Bm : Nat) (hBm : Bm < w.heap.size) (hL : O.length ≤ 1000000000)
    (hm : w.cell? ⟨Bm, 0, none⟩ = some (.map (some b))) (hown : hasMap Tryz.prog 31 w b (O.map E3.kv)) :
    Calls Tryz.prog 43 #[.func (.func 89) #[] #[.pointer (some ⟨Bm, 0, none⟩)], .func (.func 41) #[] #[]] w fun e w' =>
      ∃ v, e = .returned v ∧ Owns w' w.heap.size 31 32 v (nsort (O.map (·.n))).length (pcs (nsort (O.map (·.n)))) ∧ Below w.heap.size w w' := by
  have e1 : (O.attachWith (fun e => e.n.length = 32) h32).map (fun x => (idv x.1.n, (E3.kv x.1).2)) = O.map E3.kv := by
    rw [show (fun x : { e : E3 // e.n.length = 32 } => (idv x.1.n, (E3.kv x.1).2)) = E3.kv ∘ Subtype.val from rfl, ← List.map_map, List.attachWith_map_subtype_val]
  refine (nsorted_in b (O.attachWith (fun e => e.n.length = 32) h32) (fun x => ⟨x.1.n, x.2⟩) (fun x => (E3.kv x.1).2) w Bm hBm (by simp; omega) hm (by rw [e1]; exact hown)).mono ?_
  rintro e w' ⟨v, xs, rfl, hp, hrow, hb⟩
  have e2 : (ksort xs).map (·.1) = nsort (O.map (·.n)) := by
    rw [ksort_names]
    refine nsort_of_perm ((hp.map _).trans ?_)
    rw [List.map_map, show ((fun x : Id32 => x.1) ∘ fun x : { e : E3 // e.n.length = 32 } => (⟨x.1.n, x.2⟩ : Id32)) = (fun e : E3 => e.n) ∘ Subtype.val from rfl, ← List.map_map, List.attachWith_map_subtype_val]
  refine ⟨v, rfl, ?_, hb⟩
  have := Owns.of hrow
  rw [benc_pcs, e2] at this
  rw [← e2, List.length_map, e2]
  exact this
end Go.Proofs.YtfoifdhcelcgiaaGreatDoor

/- The names of a set, those that wait, one that lacks nothing any more. -/
namespace Go.Proofs.YtfoifdhcelcgiaaGreatDoor
open Go Go.RowKit

theorem results_cell_tmp {P : Program} {w : World} {fn : Func} {p u : Tmp} {ty : TypeId} (h : fn.results = #[.cell p ty, .tmp u]) {tmps : Array Value} {b off : Nat} (ha : tmps.getD p undef = .pointer (some ⟨b, off, none⟩)) {v : Value} (hl : (loadVar ty ⟨b, off, none⟩).run P w = .ok v w) :
    (results fn tmps).run P w = .ok (.tuple #[v, tmps.getD u undef]) w := by
  simp only [results, h]
  have ha' : tmps[p]?.getD undef = .pointer (some ⟨b, off, none⟩) := by simpa using ha
  simp [ha', asAddr, hl]

theorem keysfn_any (m : Nat) (w : World) : Calls Tryz.prog 69 #[.map (some m)] w fun e w' =>
    e = .returned (.func (.func 89) #[] #[.pointer (some ⟨w.heap.size, 0, none⟩)]) ∧ w' = w.alloc (.cells #[.map (some m)] 78) := by
  go_enter Tryz.func69, Tryz.ntmps69
  go_wp2
  go_ret
  exact ⟨rfl, rfl⟩

/-- both calls, one behind the other -/
theorem sorted_call (m : Nat) (O : List E3) (h32 : ∀ e ∈ O, e.n.length = 32) (w : World) (hL : O.length ≤ 1000000000) (hown : hasMap Tryz.prog 31 w m (O.map E3.kv)) :
    Calls Tryz.prog 43 #[.func (.func 89) #[] #[.pointer (some ⟨w.heap.size, 0, none⟩)], .func (.func 41) #[] #[]] (w.alloc (.cells #[.map (some m)] 78)) fun e w' =>
      ∃ v, e = .returned v ∧ Owns w' w.heap.size 31 32 v (nsort (O.map (·.n))).length (pcs (nsort (O.map (·.n)))) ∧ Below w.heap.size w w' :=
  (snames_any m O h32 (w.alloc (.cells #[.map (some m)] 78)) w.heap.size (by simp) hL (by simp) (hown.of_block (Below.heap_alloc _ _ _ hown.lt))).mono
    fun e w' ⟨v, h1, h2, h3⟩ => ⟨v, h1, h2.down (by simp), ((Below.refl _ w).alloc (Nat.le_refl _) _).trans (h3.mono (by simp))⟩

section
variable (b mo mw mt : Nat) (B : Nat → Prop) (O W : List E3) (T : List (Nm × Nat)) (w : World)
theorem dnames_any (h : DagSet w b mo mw mt B O W T) (hL : O.length ≤ 1000000000) :
    Calls Tryz.prog 37 #[.pointer (some ⟨b, 0, none⟩)] w fun e w' => ∃ v, e = .returned v ∧ Owns w' w.heap.size 31 32 v (nsort (O.map (·.n))).length (pcs (nsort (O.map (·.n)))) ∧ Below w.heap.size w w' := by
  have hc := h.c0
  have HS := Lib.hid (sorted_call mo O (fun e he => (h.okO e he).len) w hL h.ops)
  clear h
  go_enter Tryz.func37, Tryz.ntmps37
  go_wp2_with (first
    | (go_at_call 69; refine (keysfn_any mo w).mono ?_; rintro e w1 ⟨rfl, rfl⟩)
    | (go_at_call 43; refine HS.out.mono ?_; rintro e w2 ⟨v, rfl, hown, hb⟩))
  go_ret
  exact ⟨v, rfl, hown, hb⟩
end
theorem dnames_nil (w : World) : Calls Tryz.prog 37 #[.pointer none] w fun e w' => e = .returned (.slice none 0 0) ∧ w' = w := by
  go_enter Tryz.func37, Tryz.ntmps37
  go_wp2
  go_ret
  exact ⟨rfl, rfl⟩
theorem build_id (w : World) : (Instr.build 31 #[]).run Tryz.prog w = .ok (.agg (fillB [] 32)) w := by kernel_rfl
theorem build_op (w : World) : (Instr.build 46 #[]).run Tryz.prog w = .ok (.agg (zeroOp.cs none 0).toArray) w := by kernel_rfl
theorem wpList_buildZ {P : Program} (w : World) {ops : Array Oper} {rest : List Oper} {o : Oper} {a : Act} {Q : Exit → Act → World → Prop} (hg : o.guard = none) (t : TypeId) (hop : o.op = .build t #[]) (Z : Value) (hz : (Instr.build t #[]).run P w = .ok Z w)
    (h : wpList P ops Q rest (a.put o.dst Z) w) : wpList P ops Q (o :: rest) a w := by
  refine wpList_plain hg fun K' hK' => ?_
  unfold Oper.wp execOp
  simp only [hop, List.map_toArray, List.map_nil, Sem.run_bind, hz, Result.andThen_ok, Sem.run_pure]
  exact hK' _ _ h

/-- what ready answers: the least that lacks nothing; or that there is none -/
def ReadyR (O W : List E3) (y : Nm) (more : Bool) : Prop :=
  (more = true → ∃ x ∈ W, y = x.n ∧ IsBest ⟨O.map E3.ent, W.map E3.ent⟩ x.ent) ∧ (more = false → ∀ x ∈ W, wholeB (O.map E3.ent) x.o = false)

theorem filter_len {l : List NOp} {o : OpV} : (o.preds.filter fun n => !hasN l n).length = 0 ↔ wholeB l o = true := by
  rw [List.length_eq_zero_iff, List.filter_eq_nil_iff, wholeB, List.all_eq_true]
  simp

set_option maxRecDepth 100000 in
set_option maxHeartbeats 8000000 in
theorem ready_any (b mo mw mt : Nat) (B : Nat → Prop) (O W : List E3) (T : List (Nm × Nat)) (w : World) (h : DagSet w b mo mw mt B O W T) (hL : W.length ≤ 1000000000) :
    Calls Tryz.prog 61 #[.pointer (some ⟨b, 0, none⟩)] w fun e w' => Below w.heap.size w w' ∧ ∃ (y : Nm) (more : Bool), e = .returned (.tuple #[idv y, .bool more]) ∧ y.length = 32 ∧ ReadyR O W y more := by
  obtain ⟨hz, hid⟩ := info_two idInfo
  have HZ := Lib.hid hz
  have HI := Lib.hid hid
  obtain ⟨w1, hw1⟩ : ∃ w1, w1 = w.alloc (.cells (fillB [] 32) 31) := ⟨_, rfl⟩
  have hb1 : Below w.heap.size w w1 := by rw [hw1]; exact (Below.refl _ w).alloc (Nat.le_refl _) _
  have hd1 : w1.heap[w.heap.size]? = some (.cells (fillB [] 32) 31 (0, 0)) := by rw [hw1]; exact (MapKept.heap_alloc _ _).1
  have hz1 : w.heap.size < w1.heap.size := by rw [hw1]; simp
  have h1 := h.under hb1
  have hc := h1.c1
  have HS := Lib.hid (sorted_call mw W (fun e he => (h1.okW e he).len) w1 hL h1.wait)
  have HH1 := Lib.hid h1
  have HB1 := Lib.hid hb1
  have HD1 := Lib.hid hd1
  have hWnd : (namesOf (W.map E3.ent)).Nodup := by
    have := kv_nodup h1.wait.nodup
    rwa [show namesOf (W.map E3.ent) = W.map (·.n) by simp [namesOf, E3.ent]]
  have HND := Lib.hid hWnd
  have hNW : W.map (·.n) = namesOf (W.map E3.ent) := by simp [namesOf, E3.ent]
  have HNW := Lib.hid hNW
  clear h h1 hb1 hd1 hWnd hNW hz hid
  go_enter Tryz.func61, Tryz.ntmps61
  go_upto_region 1 with (first | (refine wpList_allocZ _ rfl 31 rfl _ HZ.out ?_))
  rw [← hw1]
  clear hw1
  go_wp2_with (first
    | (go_at_call 69; refine (keysfn_any mw w1).mono ?_; rintro e w2 ⟨rfl, rfl⟩)
    | (go_at_call 43; refine HS.out.mono ?_; rintro e w3 ⟨v, rfl, hown, hb3⟩; obtain ⟨pv, cv, rfl⟩ := hown.form))
  clear hc
  obtain ⟨X, hX⟩ : ∃ X, X = nsort (W.map (·.n)) := ⟨_, rfl⟩
  rw [← hX] at hown ⊢
  have hX32 : ∀ x ∈ X, x.length = 32 := fun x hx => by
    rw [hX] at hx
    obtain ⟨e, he, rfl⟩ := List.mem_map.1 (nsort_mem.1 hx)
    exact (HH1.out.okW e he).len
  have hXl : X.length ≤ 1000000000 := by rw [hX, (nsort_perm _).length_eq, List.length_map]; exact hL
  have HX := Lib.hid hX
  have HX32 := Lib.hid hX32
  have HSr := Lib.hid (⟨hown.src⟩ : Src w3 pv (pcs X))
  have HB3 := Lib.hid hb3
  have hz3 := hb3.size
  clear hX hX32 hown hb3
  go_loopw [13] (fun i wr => ∃ n : Nat, n ≤ X.length ∧ i = .int .i64 n ∧ Hid (∀ j, j < n → ∀ x ∈ W, X[j]? = some x.n → wholeB (O.map E3.ent) x.o = false) ∧ Hid (Below w3.heap.size w3 wr)) (fun i _ => X.length - (intOf i).toNat)
  case atStart => exact ⟨0, by omega, rfl, Lib.hid (fun j hj => absurd hj (by omega)), Lib.hid (Below.refl _ _)⟩
  case round =>
    obtain ⟨n, hn1, rfl, hno, hbr⟩ := hrel
    have hszr := hbr.out.size
    by_cases hlt2 : n < X.length
    · obtain ⟨x, g, off, hx1, hx2, hx3, rfl, hx4⟩ := pred_at HSr.out.at_ HX32.out hlt2
      have hg := bcs_at_lt hx4 hx3
      have hcx : cellsAt wr g (off + n * 32) (bcs x) := hx4.of_block (hbr.out.block _ hg)
      have hxW : x ∈ W.map (·.n) := by
        have := List.mem_of_getElem? hx1
        rw [HX.out] at this
        exact nsort_mem.1 this
      obtain ⟨e, heW, hen⟩ := List.mem_map.1 hxW
      subst hen
      have heAt : e3At W e.n = some e := find_mem (kv_nodup HH1.out.wait.nodup) heW
      have HEA := Lib.hid heAt
      have HEW := Lib.hid heW
      have HX1 := Lib.hid hx1
      have HXc := Lib.hid hcx
      have HX3 := Lib.hid hx3
      have HZX := Lib.hid (show (fillB [] 32).size = (bcs e.n).toArray.size by rw [show (bcs e.n).toArray.size = (bcs e.n).length from rfl, bcs_length, hx3]; rfl)
      clear hx1 hx2 hx3 hx4 hcx hxW heAt heW
      go_upto_region 4 with (first
        | (refine wpList_loadAgg _ rfl 31 _ rfl _ Tryz.underlying31 rfl g (off + n * 32) (by rfl) (bcs e.n) (by rw [HI.out, bcs_length, HX3.out]) HXc.out ?_)
        | (refine wpList_allocZ _ rfl 31 rfl _ HZ.out ?_)
        | (refine wpList_storeNew _ wr rfl 31 _ _ rfl (fillB [] 32) rfl (by rfl) (bcs e.n).toArray (by rfl) (by rw [HI.out, List.size_toArray, bcs_length, HX3.out]) HZX.out (by simpa using bcs_one e.n) ?_))
      obtain ⟨w4, hw4⟩ : ∃ w4, w4 = wr.alloc (.cells (bcs e.n).toArray 31) := ⟨_, rfl⟩
      rw [← hw4]
      have hb4 : Below wr.heap.size wr w4 := by rw [hw4]; exact (Below.refl _ wr).alloc (Nat.le_refl _) _
      have hx4 : cellsAt w4 wr.heap.size 0 (bcs e.n) := by rw [hw4]; simpa using cellsAt_new wr (bcs e.n).toArray 31
      have hz4 : w4.heap.size = wr.heap.size + 1 := by rw [hw4]; simp
      have HX5 := Lib.hid hx4
      have HB4 := Lib.hid (hbr.out.trans (hb4.mono (by omega)))
      obtain ⟨N2, hN2, hN3⟩ : ∃ n, w4.heap.size ≤ n ∧ n ≤ w4.heap.size := ⟨_, Nat.le_refl _, Nat.le_refl _⟩
      clear hw4 hb4 hx4
      have HH4 := Lib.hid (HH1.out.under (HB3.out.trans (HB4.out.mono (by omega))))
      obtain ⟨LN, hLN⟩ : ∃ LN, LN = (e.o.preds.filter fun n => !hasN (O.map E3.ent) n).length := ⟨_, rfl⟩
      refine wp_region_noPanic ?_
      refine wp_region_till 8 (fun w' => Below N2 w4 w') (by kernel_rfl) (by kernel_rfl) ?_
      obtain ⟨wA, hwA⟩ : ∃ wA, wA = w4.drew := ⟨_, rfl⟩
      have hSA : Below N2 w4 wA := by rw [hwA]; exact (Below.refl N2 w4).drew
      rw [← hwA]
      have HSA := Lib.hid hSA
      have hzA : wA.heap.size = w4.heap.size := by rw [hwA]; rfl
      clear hwA hSA
      have HLK := Lib.hid (show ∀ w', Below N2 w4 w' → (Instr.lookup 78 (.map (some mw)) (idv e.n) false).run Tryz.prog w' = .ok (.agg (e.o.cs e.p e.c).toArray) w' from fun w' hw' => by
        have h1 := (HH4.out.below hw' hN2).wait.look3 HX3.out false
        rw [valAt, HEA.out] at h1
        exact h1)
      go_simp
      refine Till.pure 0 rfl rfl (by kernel_rfl) (NoPanic.noFrame _) HSA.out ?_
      go_big_quiet_step (fail)
      refine wpQuiet_nil ?_
      refine Till.pure 1 rfl rfl (by kernel_rfl) (NoPanic.noFrame _) HSA.out ?_
      go_big_quiet_step (fail)
      refine wpQuiet_nil ?_
      refine Till.pure 2 rfl rfl (by kernel_rfl) (NoPanic.noFrame _) HSA.out ?_
      go_big_quiet_step (fail)
      refine wpQuiet_nil ?_
      refine Till.pure 3 rfl rfl (by kernel_rfl) (NoPanic.noFrame _) HSA.out ?_
      go_big_quiet_step (fail)
      refine wpQuiet_nil ?_
      refine Till.load 4 78 _ ⟨b, 1, none⟩ (.map (some mw)) rfl rfl rfl rfl (by kernel_rfl) (NoPanic.noFrame _) HSA.out (fun w' hw' => run_loadVar_one Tryz.underlying78 rfl (HH4.out.below hw' hN2).c1) ?_
      go_simp
      refine Till.load 5 31 _ ⟨wr.heap.size, 0, none⟩ (idv e.n) rfl rfl rfl rfl (by kernel_rfl) (NoPanic.noFrame _) HSA.out (fun w' hw' => run_loadAgg Tryz.underlying31 rfl (by rw [HI.out, bcs_length, HX3.out]) (HX5.out.of_block (hw'.block _ (by omega)))) ?_
      go_simp
      refine Till.look 6 78 _ _ false (.map (some mw)) (idv e.n) _ rfl rfl rfl (by rfl) (by rfl) (by kernel_rfl) (NoPanic.noFrame _) HSA.out HLK.out ?_
      go_simp
      refine Till.act 7 rfl rfl (by kernel_rfl) rfl ?_
      intro K hK
      have HHA := Lib.hid (HH4.out.below HSA.out hN2)
      go_wp2_with (first | (go_at_call 58; refine (lacks_any b mo mw mt B O W T e.o (HHA.out.okW e HEW.out).ok e.p e.c wA HHA.out (HHA.out.okW e HEW.out).src).mono ?_; rintro e5 w5 ⟨q5, c5, rfl, hb5⟩))
      refine hK _ _ (HSA.out.trans (hb5.mono (by omega))) ?_
      clear hK K
      have HB5a := Lib.hid hb5
      have HB5 := Lib.hid (HB4.out.trans ((HSA.out.trans (hb5.mono (by omega))).mono (by omega)))
      have hz5 := HB5.out.size
      clear hb5
      rw [← hLN]
      have HLN := Lib.hid hLN
      clear hLN
      have hcd := HX5.out.of_block ((HSA.out.trans (HB5a.out.mono (by omega))).block _ (by omega))
      have HCD := Lib.hid hcd
      have HD5 := Lib.hid ((HB5.out.block _ (by omega)).trans ((HB3.out.block _ (by omega)).trans HD1.out))
      clear hcd
      refine Till.tail _ rfl rfl (by kernel_rfl) (by kernel_rfl) ?_
      by_cases h0 : LN = 0
      · have hb0 : ((LN : Int) == 0) = true := by simp [h0]
        go_wp2
        refine NoPanic.normal ?_
        go_wp2_with (first
          | (refine wpList_loadAgg _ rfl 31 _ rfl _ Tryz.underlying31 rfl wr.heap.size 0 (by rfl) (bcs e.n) (by rw [HI.out, bcs_length, HX3.out]) HCD.out ?_)
          | (refine wpList_storeRow rfl 31 _ _ rfl HD5.out (by rfl) (bcs e.n).toArray (by rfl) (by rw [HI.out, List.size_toArray, bcs_length, HX3.out]) HZX.out (by simpa using bcs_one e.n) ?_; intro w6 hw6 hg6 hs6))
        have hcf : cellsAt w6 w.heap.size 0 (bcs e.n) := fun j u hj => by rw [cell_of_row _ _ _ _ _ _ hw6, Nat.zero_add]; simpa using hj
        have hbf : Below w.heap.size w w6 := (HB1.out.trans ((HB3.out.mono (by omega)).trans (HB5.out.mono (by omega)))).grown hg6 (by omega) (fun k e => by have := Option.some.inj e; omega)
        refine bodyPost_ret (results_cell_tmp rfl (by rfl) (run_loadAgg Tryz.underlying31 rfl (by rw [HI.out, bcs_length, HX3.out]) hcf)) rfl ⟨hbf, e.n, true, rfl, HX3.out, fun _ => ⟨e, HEW.out, rfl, ?_⟩, fun h => by cases h⟩
        have hwh : wholeB (O.map E3.ent) e.o = true := filter_len.1 (by rw [← HLN.out]; exact h0)
        refine best_of_find (s := ⟨O.map E3.ent, W.map E3.ent⟩) HND.out (k := n) (by rw [← HNW.out, ← HX.out]; exact HX1.out) (List.mem_map.2 ⟨e, HEW.out, rfl⟩) hwh ?_
        intro j hj x hx hxj
        obtain ⟨y, hy, rfl⟩ := List.mem_map.1 hx
        exact hno.out j hj y hy (by rw [HX.out, HNW.out]; exact hxj)
      · have hb0 : ((LN : Int) == 0) = false := by simpa using h0
        go_wp2
        refine NoPanic.normal ?_
        go_wp2
        go_roundw
        case rel =>
          refine ⟨n + 1, by omega, by go_num, Lib.hid ?_, HB5⟩
          intro j hj x hx hxj
          rcases Nat.lt_or_eq_of_le (Nat.le_of_lt_succ hj) with h1 | h1
          · exact hno.out j h1 x hx hxj
          · subst h1
            rw [HX1.out] at hxj
            have hne := Option.some.inj hxj
            have hxe : e3At W x.n = some x := find_mem (kv_nodup HH1.out.wait.nodup) hx
            rw [← hne, HEA.out] at hxe
            cases hxe
            cases hwh : wholeB (O.map E3.ent) e.o with
            | false => rfl
            | true => exact absurd (HLN.out.trans (filter_len.2 hwh)) h0
        case measure => simp [intOf] <;> omega
    · obtain rfl : n = X.length := by omega
      have HDr := Lib.hid ((hbr.out.block _ (by omega)).trans ((HB3.out.block _ (by omega)).trans HD1.out))
      go_wp2_with (first
        | (refine wpList_buildZ _ rfl 31 rfl _ (build_id _) ?_)
        | (refine wpList_storeRow rfl 31 _ _ rfl HDr.out (by rfl) (fillB [] 32) (by rfl) (by rw [HI.out]; rfl) (by rfl) (by decide) ?_; intro w6 hw6 hg6 hs6))
      have hcf : cellsAt w6 w.heap.size 0 (fillB [] 32).toList := fun j u hj => by rw [cell_of_row _ _ _ _ _ _ hw6, Nat.zero_add]; simpa using hj
      have hbf : Below w.heap.size w w6 := (HB1.out.trans ((HB3.out.mono (by omega)).trans (hbr.out.mono (by omega)))).grown hg6 (by omega) (fun k e => by have := Option.some.inj e; omega)
      refine bodyPost_ret (results_cell_tmp rfl (by rfl) (run_loadAgg Tryz.underlying31 rfl (by rw [HI.out]; rfl) hcf)) rfl ⟨hbf, zeroId, false, rfl, rfl, fun h => (by cases h), fun _ x hx => ?_⟩
      have hxX : x.n ∈ X := by rw [HX.out]; exact nsort_mem.2 (List.mem_map.2 ⟨x, hx, rfl⟩)
      obtain ⟨j, hj⟩ := List.mem_iff_getElem?.1 hxX
      exact hno.out j (List.getElem?_eq_some_iff.1 hj).1 x hx hj
end Go.Proofs.YtfoifdhcelcgiaaGreatDoor
