/-
  Texts in their order, each once; slices.Sort, slices.Compact at []string, slices.Contains at []int.
-/
import Derived.Test.YtfoifdhcelcgiaaGreatDoorJc
import Derived.Test.YtfoifdhcelcgiaaGreatDoorJb
import Derived.Test.YtfoifdhcelcgiaaGreatDoorLayT
import Derived.Lib.OwnBridge
import Derived.Lib.SlicesCompact
import Derived.Shelf.Sort.Plain
import Derived.Shelf.Slices.In.SortNone
import Derived.Shelf.Slices.CompactS
import Derived.Shelf.Slices.Turned
namespace Go.Proofs.YtfoifdhcelcgiaaGreatDoor
open Go Go.RowKit Go.Shelf Go.Sort
open Go.Lib (compact compactUpTo keeps)

abbrev Tx := List UInt8
theorem tx_lt_of {x y : Tx} (h : x ≤ y) (h' : x ≠ y) : x < y := by
  rcases List.le_total y x with h1 | h1
  · exact absurd (List.le_antisymm h h1) h'
  · exact Decidable.byContradiction fun h2 => h' (List.le_antisymm h (List.not_lt.1 h2))
theorem get_bang {l : List Tx} {j : Nat} (h : j < l.length) : l.toArray[j]! = l[j] := by simp [h]
theorem compact_mem (zs : List Tx) (x : Tx) : x ∈ compact zs ↔ x ∈ zs := by
  unfold compact compactUpTo
  simp only [List.mem_map, List.mem_filter, List.mem_range]
  constructor
  · rintro ⟨j, ⟨hj, _⟩, rfl⟩
    rw [get_bang hj]
    exact List.getElem_mem hj
  · intro hx
    obtain ⟨j, hj, hjx⟩ := List.mem_iff_getElem.1 hx
    have key : ∀ n j, j < n → j < zs.length → zs.toArray[j]! = x → ∃ a, (a < zs.length ∧ keeps zs.toArray a = true) ∧ zs.toArray[a]! = x := by
      intro n
      induction n with
      | zero => intro j h; omega
      | succ n ih =>
        intro j hj hjl hjx
        by_cases hk : keeps zs.toArray j = true
        · exact ⟨j, ⟨hjl, hk⟩, hjx⟩
        · simp only [keeps, decide_eq_true_eq, not_or, Decidable.not_not] at hk
          exact ih (j - 1) (by omega) (by omega) (by rw [← hk.2]; exact hjx)
    exact key (j + 1) j (by omega) hj (by rw [get_bang hj]; exact hjx)
theorem compact_strict {zs : List Tx} (h : zs.Pairwise (· ≤ ·)) : (compact zs).Pairwise (· < ·) := by
  unfold compact compactUpTo
  rw [List.pairwise_map, List.pairwise_filter]
  refine (List.Pairwise.and_mem.1 (List.pairwise_lt_range)).imp (fun {i j} hh _ hk => ?_)
  obtain ⟨hi, hj, hlt⟩ := hh
  rw [List.mem_range] at hi hj
  simp only [keeps, decide_eq_true_eq] at hk
  have hne : zs.toArray[j]! ≠ zs.toArray[j - 1]! := hk.resolve_left (by omega)
  rw [get_bang hj, get_bang (show j - 1 < zs.length by omega)] at hne
  rw [get_bang hi, get_bang hj]
  have hp := List.pairwise_iff_getElem.1 h
  have h1 : zs[j - 1] ≤ zs[j] := hp (j - 1) j (by omega) hj (by omega)
  have h2 : zs[j - 1] < zs[j] := tx_lt_of h1 (fun e => hne e.symm)
  rcases Nat.lt_or_eq_of_le (show i ≤ j - 1 by omega) with h3 | h3
  · exact List.lt_of_le_of_lt (hp i (j - 1) hi (by omega) h3) h2
  · subst h3
    exact h2
theorem compact_len (zs : List Tx) : (compact zs).length ≤ zs.length := Lib.compact_length_le zs
def tsort (zs : List Tx) : List Tx := zs.mergeSort fun x y => decide (x ≤ y)
theorem tsort_pairwise (zs : List Tx) : (tsort zs).Pairwise (· ≤ ·) := by
  have := List.pairwise_mergeSort (le := fun x y : Tx => decide (x ≤ y))
    (fun a b c h1 h2 => by
      simp only [decide_eq_true_eq] at *
      exact List.le_trans h1 h2)
    (fun a b => by
      simp only [Bool.or_eq_true, decide_eq_true_eq]
      exact List.le_total a b) zs
  exact this.imp (by simp)
theorem tsort_perm (zs : List Tx) : (tsort zs).Perm zs := List.mergeSort_perm _ _
/-- texts, rising, each once -/
def ascL (zs : List Tx) : List Tx := compact (tsort zs)
theorem ascL_strict (zs : List Tx) : (ascL zs).Pairwise (· < ·) := compact_strict (tsort_pairwise zs)
theorem ascL_mem {zs : List Tx} {x : Tx} : x ∈ ascL zs ↔ x ∈ zs := (compact_mem _ _).trans (tsort_perm zs).mem_iff
theorem ascL_len (zs : List Tx) : (ascL zs).length ≤ zs.length := Nat.le_trans (compact_len _) (by rw [(tsort_perm zs).length_eq]; exact Nat.le_refl _)
theorem strict_unique : ∀ {l r : List Tx}, l.Pairwise (· < ·) → r.Pairwise (· < ·) → (∀ x, x ∈ l ↔ x ∈ r) → l = r
  | [], [], _, _, _ => rfl
  | [], b :: r, _, _, h => absurd ((h b).2 (by simp)) (by simp)
  | a :: l, [], _, _, h => absurd ((h a).1 (by simp)) (by simp)
  | a :: l, b :: r, hl, hr, h => by
    have h1 := List.pairwise_cons.1 hl
    have h2 := List.pairwise_cons.1 hr
    have hab : a = b := by
      rcases List.mem_cons.1 ((h a).1 (by simp)) with e | e
      · exact e
      · rcases List.mem_cons.1 ((h b).2 (by simp)) with e' | e'
        · exact e'.symm
        · exact absurd (List.lt_trans (h1.1 b e') (h2.1 a e)) (List.lt_irrefl a)
    subst hab
    rw [strict_unique h1.2 h2.2 (fun x => ⟨fun hx => ((List.mem_cons.1 ((h x).1 (by simp [hx]))).resolve_left (fun e => by subst e; exact List.lt_irrefl x (h1.1 x hx))), fun hx => ((List.mem_cons.1 ((h x).2 (by simp [hx]))).resolve_left (fun e => by subst e; exact List.lt_irrefl x (h2.1 x hx)))⟩)]
theorem ascL_of_mem {l r : List Tx} (h : ∀ x, x ∈ l ↔ x ∈ r) : ascL l = ascL r := strict_unique (ascL_strict l) (ascL_strict r) (fun x => by rw [ascL_mem, ascL_mem, h x])
theorem ascL_self {l : List Tx} (h : l.Pairwise (· < ·)) : ascL l = l := strict_unique (ascL_strict l) h (fun _ => ascL_mem)

/-! ### rows of texts -/
section
variable {w w' : World} {base : Nat} {e : TypeId} {size n : Nat} {v : Value} {xs : List Value}
theorem orow_keep (h : w.ownsRow base e size v n xs) (hk : ∀ g, v.ownBlock = some g → w'.heap[g]? = w.heap[g]?) : w'.ownsRow base e size v n xs := by
  refine ⟨h.1, ?_⟩
  rcases h.2 with h0 | ⟨g, cap, cur, hv, hg, hh, h1⟩
  · exact .inl h0
  · exact .inr ⟨g, cap, cur, hv, hg, (hk g (by rw [hv]; rfl)).trans hh, h1⟩
theorem orow_lt (h : w.ownsRow base e size v n xs) {g : Nat} (hg : v.ownBlock = some g) : base ≤ g ∧ g < w.heap.size := (Owns.of h).lt hg
theorem orow_under (h : w.ownsRow base e size v n xs) (hb : Below w.heap.size w w') : w'.ownsRow base e size v n xs := orow_keep h (fun g hg => hb.block g (orow_lt h hg).2)
theorem orow_nil (w : World) (base : Nat) (e : TypeId) (size : Nat) : w.ownsRow base e size (.slice none 0 0) 0 [] := ⟨by simp, .inl ⟨rfl, rfl⟩⟩
theorem scs_enc (l : List Tx) : scs l = l.map encStr := rfl
theorem below_grow {B : Nat} {w0 w : World} (h : Below B w0 w) (os : Array Obj) (hB : B ≤ w.heap.size) : Below B w0 (grow w os) :=
  h.trans ⟨rfl, rfl, rfl, by simp, fun k hk => by
    show (w.heap ++ os)[k]? = w.heap[k]?
    rw [Array.getElem?_append_left (by omega)]⟩
theorem orow_down {b' : Nat} (h : w.ownsRow base e size v n xs) (hb : b' ≤ base) : w.ownsRow b' e size v n xs := by
  refine ⟨h.1, ?_⟩
  rcases h.2 with h0 | ⟨g, cap, cur, h1, h2, h3⟩
  · exact .inl h0
  · exact .inr ⟨g, cap, cur, h1, Nat.le_trans hb h2, h3⟩
theorem orow_take {w : World} {g cap : Nat} {xs : List Value} (h : w.ownsRow base e size (.slice (some ⟨g, 0, none⟩) n cap) n xs) : base ≤ g ∧ g < w.heap.size := orow_lt h rfl
end

/-- slices.Sort(s), s texts in a row of the call's own -/
theorem sortT_any (K : List Tx) (p : Option Addr) (cap base : Nat) (w : World) (h : w.ownsRow base 9 1 (.slice p K.length cap) K.length (scs K)) (hl : K.length ≤ 1000000000) :
    Calls Tryz.prog 51 #[.slice p K.length cap] w fun e w' => e = .returned (.tuple #[]) ∧ w'.ownsRow base 9 1 (.slice p K.length cap) K.length (scs (tsort K)) ∧ Below base w w' := by
  cases K with
  | nil =>
    have hs := Any.slices_Sort_string_none Tryz.sortStr p cap w
    change Calls Tryz.prog 51 _ _ _ at hs
    refine hs.mono ?_
    rintro e w' ⟨rfl, rfl⟩
    exact ⟨rfl, by simpa [tsort] using h, Below.refl _ _⟩
  | cons a r =>
    obtain ⟨g, cap', hv, hb, hg, hn, hm, hlen, hH⟩ := Lib.holds_of_ownsRow (enc := encStr) (zs := a :: r) h (by intro e'; simp at e')
    simp only [Value.slice.injEq] at hv
    obtain ⟨rfl, -, rfl⟩ := hv
    have hs := Any.slices_Sort_string Tryz.sortStr g 0 cap (a :: r) w hH hg (by omega)
    change Calls Tryz.prog 51 _ _ _ at hs
    refine hs.mono ?_
    rintro e w' ⟨rfl, q, os, rfl⟩
    have hk : (tsort (a :: r)).length = (a :: r).length := (tsort_perm _).length_eq
    have h1 := Lib.ownsRow_putRow (enc := encStr) (q := q) h (ys := tsort (a :: r)) hk (Nat.le_refl _)
    rw [List.take_of_length_le (Nat.le_of_eq hk)] at h1
    have hz : ∀ d : Array Tx, (putRow encStr (Sort.ahead w q) g 0 d).heap.size = w.heap.size := fun d => by simp [putRow, mapBlock, Sort.ahead]
    refine ⟨rfl, orow_under h1 (below_grow (Below.refl _ _) os (Nat.le_refl _)), ?_⟩
    exact below_grow (Lib.below_putRow (Below.refl _ w) hb) os (by rw [hz]; omega)

/-- slices.Compact(s) -/
theorem compactT_any (K : List Tx) (p : Option Addr) (cap base : Nat) (w : World) (h : w.ownsRow base 9 1 (.slice p K.length cap) K.length (scs K)) (hl : K.length ≤ 1000000000) :
    Calls Tryz.prog 52 #[.slice p K.length cap] w fun e w' => e = .returned (.slice p (compact K).length cap) ∧ w'.ownsRow base 9 1 (.slice p (compact K).length cap) (compact K).length (scs (compact K)) ∧ Below base w w' := by
  cases K with
  | nil =>
    have hs := Any.slices_Compact_string_empty Tryz.compactStr p cap w
    change Calls Tryz.prog 52 _ _ _ at hs
    refine hs.mono ?_
    rintro e w' ⟨rfl, rfl⟩
    exact ⟨rfl, h, Below.refl _ _⟩
  | cons a r =>
    obtain ⟨g, cap', hv, hb, hg, hn, hm, hlen, hH⟩ := Lib.holds_of_ownsRow (enc := encStr) (zs := a :: r) h (by intro e'; simp at e')
    simp only [Value.slice.injEq] at hv
    obtain ⟨rfl, -, rfl⟩ := hv
    have hs := Any.slices_Compact_string Tryz.compactStr g 0 cap (a :: r) w hH (by omega) hn
    change Calls Tryz.prog 52 _ _ _ at hs
    refine hs.mono ?_
    rintro e w' ⟨rfl, q, rfl⟩
    have hle := compact_len (a :: r)
    have h1 := Lib.ownsRow_putRow (enc := encStr) (q := q) (k := (compact (a :: r)).length) h (ys := compact (a :: r) ++ List.replicate ((a :: r).length - (compact (a :: r)).length) []) (by rw [List.length_append, List.length_replicate]; omega) hle
    rw [List.take_left] at h1
    exact ⟨rfl, h1, Lib.below_putRow (Below.refl _ w) hb⟩

/-- slices.Contains(s, x) -/
theorem containsI_any (zs : List Int) (x : Int) (p : Option Addr) (c : Nat) (w : World) (hs : Src w p (zs.map (Value.int .i64))) (hl : zs.length ≤ 1000000000) :
    Calls Tryz.prog 49 #[.slice p zs.length c, .int .i64 x] w fun e w' => e = .returned (.bool (zs.contains x)) ∧ w' = w := by
  cases zs with
  | nil =>
    have h := Any.slices_Contains_int_empty Tryz.containsInt p c x w
    change Calls Tryz.prog 49 _ _ _ at h
    exact h
  | cons a r =>
    obtain ⟨b, off, rfl, _⟩ := hs.at_ 0 _ rfl
    have h := Any.slices_Contains_int Tryz.containsInt b off (a :: r).length c (a :: r) x w (Nat.le_refl _) (by omega) (fun j hj => by
      obtain ⟨b', off', e', hc⟩ := hs.at_ j (.int .i64 ((a :: r).getD j 0)) (by rw [List.getElem?_map, List.getElem?_eq_getElem hj, List.getD_eq_getElem?_getD, List.getElem?_eq_getElem hj]; rfl)
      simp only [Option.some.injEq, Addr.mk.injEq, and_true] at e'
      obtain ⟨rfl, rfl⟩ := e'
      exact hc)
    change Calls Tryz.prog 49 _ _ _ at h
    rw [List.take_length] at h
    exact h
end Go.Proofs.YtfoifdhcelcgiaaGreatDoor
