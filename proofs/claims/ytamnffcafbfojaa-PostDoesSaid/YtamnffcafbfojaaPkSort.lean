/-
  slices.SortedFunc(maps.Keys(m), order) AT A MAP KEYED BY post.key, ORDERED BY PLACE AND NODE.
-/
import Derived.Test.YtamnffcafbfojaaPkColl
import Derived.Test.YtamnffcafbfojaaRowK
import Derived.Test.YtamnffcafbfojaaCmp
import Derived.Test.YtamnffcafbfojaaLay
import Derived.Test.YtamnffcafbfojaaTail
import Derived.Deep.QuietTactic
import Derived.BigQuiet
import Derived.Deep.DeepFit
namespace Go.Proofs.Ytamnffcafbfojaa
open Go Go.RowKit Go.Shelf Go.Sort

/-- the order of the keys: by place, then by node (x.1: the node, x.2: the place) -/
def korder (x y : Int × Int) : Int := or2 (cmpi x.2 y.2) (cmpi x.1 y.1)

set_option maxRecDepth 100000 in
set_option maxHeartbeats 1000000 in
theorem order_any (x y : Int × Int) (w : World) : Calls Try.prog 24 #[.agg #[.int .i64 x.1, .int .i64 x.2], .agg #[.int .i64 y.1, .int .i64 y.2]] w fun e w' =>
    e = .returned (.int .i64 (korder x y)) ∧ ∃ q os, w' = grow (w.drewN q) os := by
  go_enter Try.func24, Try.ntmps24
  go_wp2
  refine wp_region_tail 10 (by kernel_rfl) (by kernel_rfl) ?_
  simp only [List.take_succ_cons, List.take_zero, List.drop_succ_cons, List.drop_zero]
  repeat still_step
  still_call (compare_any _ _ _)
  repeat still_step
  still_call (compare_any _ _ _)
  refine wpStill_nil ?_
  generalize hr1 : cmpi x.2 y.2 = r1
  generalize hr2 : cmpi x.1 y.1 = r2
  have H : Hid (korder x y = or2 r1 r2) := by unfold Hid korder; rw [hr1, hr2]
  clear hr1 hr2
  go_wp2_with (go_at_call 25; refine (or2_any _ r1 r2 _ (by simp [go_sem]) (by simp [go_sem])).mono ?_; rintro e w' ⟨rfl, rfl⟩)
  go_ret
  exact ⟨by rw [H.out]; rfl, 1, _, by rw [alloc_eq_grow, alloc_eq_grow, alloc_eq_grow, grow_grow, grow_grow]; rfl⟩

theorem ltOf_yes (x y : Int × Int) : ltOf korder x y = true ↔ (x.2 < y.2 ∨ (x.2 = y.2 ∧ x.1 < y.1)) := by
  unfold ltOf korder or2 cmpi
  rw [decide_eq_true_iff]
  split <;> split <;> (try split) <;> (try split) <;> omega
theorem ltOf_no (x y : Int × Int) : ltOf korder x y = false ↔ ¬ (x.2 < y.2 ∨ (x.2 = y.2 ∧ x.1 < y.1)) := by
  rw [← ltOf_yes, Bool.not_eq_true]

theorem korder_swo : SWO (ltOf korder) where
  irrefl x := (ltOf_no x x).2 (by omega)
  trans x y z h1 h2 := (ltOf_yes x z).2 (by have := (ltOf_yes x y).1 h1; have := (ltOf_yes y z).1 h2; omega)
  ntrans x y z h1 h2 := (ltOf_no x z).2 (by have := (ltOf_no x y).1 h1; have := (ltOf_no y z).1 h2; omega)

theorem korder_total (x y : Int × Int) (h1 : ltOf korder x y = false) (h2 : ltOf korder y x = false) : x = y := by
  have := (ltOf_no x y).1 h1
  have := (ltOf_no y x).1 h2
  exact Prod.ext (by omega) (by omega)

theorem isAggPk (w : World) : (isAgg 61).run Try.prog w = .ok true w := by kernel_rfl
theorem sizePk (w : World) : (Go.sizeOf 61).run Try.prog w = .ok 2 w := by kernel_rfl

/-- the keys, in their order -/
def ksort (l : List (Int × Int)) : List (Int × Int) := l.mergeSort fun x y => !(ltOf korder y x)

set_option maxRecDepth 100000 in
set_option maxHeartbeats 1000000 in
theorem sortedKeys_in {β : Type} (b : Nat) (L : List β) (kf : β → Int × Int) (vf : β → Value) (w : World) (Bm : Nat) (hBm : Bm < w.heap.size) (hL : L.length * 16 ≤ 140737488355328)
    (hm : w.cell? ⟨Bm, 0, none⟩ = some (.map (some b))) (hown : hasMap Try.prog 61 w b (L.map fun x => (kv (kf x), vf x))) :
    Calls Try.prog 27 #[.func (.func 32) #[] #[.pointer (some ⟨Bm, 0, none⟩)], .func (.func 24) #[] #[]] w fun e w' =>
      ∃ (v : Value) (xs : List (Int × Int)), e = .returned v ∧ xs.Perm (L.map kf) ∧ w'.ownsRow w.heap.size 61 2 v (ksort xs).length ((ksort xs).flatMap kenc) ∧ Below w.heap.size w w' := by
  have hc : Calls Try.prog 30 #[.func (.func 32) #[] #[.pointer (some ⟨Bm, 0, none⟩)]] w fun e w' => ∃ (v : Value) (xs : List (Int × Int)), e = .returned v ∧ xs.Perm (L.map kf) ∧ w'.ownsRow w.heap.size 61 2 v xs.length (xs.flatMap kenc) ∧ Below w.heap.size w w' := by
    refine (callsIn_wide (n := 9)).1 ?_
    refine callsIn_of_wp Try.func30 rfl trivial ?_ rfl
    simp only [Try.ntmps30, List.size_toArray, List.length_cons, List.length_nil, Nat.reduceAdd, Nat.reduceSub, Array.replicate_succ, Array.replicate_zero, List.push_toArray, List.append_toArray, List.nil_append, List.cons_append]
    have hfA : Fence.wide.fn 33 := trivial
    gi_wp2_with (gi_at_call 33; refine (appendSeq_in Fence.wide 8 trivial rfl (by omega) _ _ trivial (enters_of Try.func32 (by kernel_rfl) rfl) _ L.length (by unfold maxLen; omega) hL w (keys_stops Fence.wide 7 trivial rfl (by omega) Bm b L kf vf w hBm hm hown)).mono ?_; rintro e w' ⟨v, xs, rfl, hS, hrow, hb⟩)
    go_ret
    exact ⟨v, xs, rfl, hS, hrow, hb⟩
  have eg : ∀ args w, (callFunc 24 args).run Try.prog w = .ok (.enter 24 args) w := enters_of Try.func24 (by kernel_rfl) rfl
  go_enter Try.func27, Try.ntmps27
  go_wp2_with (go_at_call 30; refine hc.mono ?_; rintro e w1 ⟨v, xs, rfl, hS, hrow, hb⟩)
  have hlen : xs.length = L.length := by rw [hS.length_eq]; simp
  cases xs with
  | nil =>
    obtain ⟨p, cap, rfl⟩ : ∃ p cap, v = .slice p 0 cap := by
      rcases hrow.2 with ⟨h, _⟩ | ⟨g, cap, cur, h, _⟩
      · exact ⟨_, _, h⟩
      · exact ⟨_, _, h⟩
    have hs := AnyF.slices_SortFunc_none Try.sortPk p cap (.func (.func 24) #[] #[]) w1
    change Calls Try.prog 31 _ _ _ at hs
    go_wp2_with (go_at_call 31; refine hs.mono ?_; rintro e w' ⟨rfl, rfl⟩)
    go_ret
    exact ⟨_, [], rfl, hS, by simpa [ksort] using hrow, hb⟩
  | cons a r =>
    obtain ⟨g, cap, rfl⟩ := ownsRow_succ hrow
    obtain ⟨hH, hg0, hg1, -⟩ := holdsK_of_owns (enc := kenc) (fun _ => rfl) hrow
    have hs := AnyQ.slices_SortFunc_total Try.sortPk 2 isAggPk sizePk kenc (fun _ => rfl) (fun x v hv => by simp [kenc] at hv; rcases hv with rfl | rfl <;> rfl) korder korder_swo 24 #[] g 0 cap (a :: r).toArray w1 eg (fun _ _ _ _ x y => order_any x y _) hH hg1 (by simp at hlen ⊢; omega) korder_total
    change Calls Try.prog 31 _ _ _ at hs
    clear hH
    have hk : (ksort (a :: r)).length = (a :: r).length := by simp [ksort]
    simp only [List.size_toArray, List.length_cons] at hs
    go_wp2_with (go_at_call 31; refine hs.mono ?_; rintro e w' ⟨rfl, n, os, rfl⟩)
    go_ret
    refine ⟨_, a :: r, rfl, hS, ?_, ?_⟩
    · exact owns_of_sort (enc := kenc) (fun _ => rfl) hrow hk n os
    · exact hb.trans ((below_of_sort (l' := ksort (a :: r)) hg1).mono hg0)
end Go.Proofs.Ytamnffcafbfojaa
