/-
  A SLICE OF ELEMENTS OF k CELLS AS append LEAVES IT ('ownsRow'), AND AS THE SORT WANTS IT ('HoldsK', 'sortWorldK'): the two bridges.
-/
import Derived.Shelf.SlSortCmp.NoneTotal
import Derived.WalkKit
namespace Go.Proofs.Ytamnffcafbfojaa
open Go Go.RowKit Go.Sort

section
variable {α : Type} [Inhabited α] {enc : α → List Value} {k : Nat}

theorem flatMap_get (hk : ∀ x, (enc x).length = k) : ∀ (l : List α) (t : Nat), t < l.length * k → (l.flatMap enc)[t]? = some ((enc l[t / k]!)[t % k]!)
  | [], t, h => by simp at h
  | a :: l, t, h => by
    have k0 : 0 < k := by
      rcases Nat.eq_zero_or_pos k with h0 | h0
      · subst h0; simp at h
      · exact h0
    rw [List.flatMap_cons]
    by_cases ht : t < k
    · rw [List.getElem?_append_left (by rw [hk]; exact ht), Nat.div_eq_of_lt ht, Nat.mod_eq_of_lt ht]
      have : t < (enc a).length := by rw [hk]; exact ht
      simp [this]
    · obtain ⟨u, rfl⟩ : ∃ u, t = k + u := ⟨t - k, by omega⟩
      have hu : u < l.length * k := by rw [List.length_cons, Nat.add_mul] at h; omega
      rw [List.getElem?_append_right (by rw [hk]; omega), hk, Nat.add_sub_cancel_left, flatMap_get hk l u hu]
      have e1 : (k + u) / k = u / k + 1 := by rw [Nat.add_comm, Nat.add_div_right _ k0]
      have e2 : (k + u) % k = u % k := Nat.add_mod_left _ _
      rw [e1, e2]
      simp

omit [Inhabited α] in
theorem length_flatMap (hk : ∀ x, (enc x).length = k) (l : List α) : (l.flatMap enc).length = l.length * k := by
  induction l with
  | nil => simp
  | cons a l ih => rw [List.flatMap_cons, List.length_append, ih, hk, List.length_cons, Nat.add_mul]; omega

theorem holdsK_of_owns (hk : ∀ x, (enc x).length = k) {w : World} {base : Nat} {e : TypeId} {g cap n : Nat} {l : List α} (h : w.ownsRow base e k (.slice (some ⟨g, 0, none⟩) n cap) l.length (l.flatMap enc)) :
    HoldsK enc k w g 0 l.toArray ∧ base ≤ g ∧ g < w.heap.size ∧ n = l.length := by
  obtain ⟨h1, h2⟩ := h
  rcases h2 with ⟨h2, _⟩ | ⟨g', cap', cur, hv, hb, hg, hc, hm, hs, ht⟩
  · cases h2
  · cases hv
    refine ⟨fun j hj => ?_, hb, (Array.getElem?_eq_some_iff.1 hg).1, rfl⟩
    have hj' : j < l.length * k := by simpa using hj
    have hcur : cur[j]? = some ((enc l[j / k]!)[j % k]!) := by
      have := flatMap_get hk l j hj'
      rw [← ht, List.getElem?_take_of_lt hj'] at this
      simpa using this
    constructor
    · rw [get_flatK _ _ _ _ (by simpa using hj'), Nat.zero_add]
      simp only [World.cell?, hg]
      rw [hcur]
      simp
    · simp [World.frozen?, hg]

theorem owns_of_sort (hk : ∀ x, (enc x).length = k) {w : World} {base : Nat} {e : TypeId} {g cap n : Nat} {l l' : List α} (h : w.ownsRow base e k (.slice (some ⟨g, 0, none⟩) n cap) l.length (l.flatMap enc)) (hl : l'.length = l.length) (m : Nat) (os : Array Obj) :
    (sortWorldK enc k w g 0 m l'.toArray os).ownsRow base e k (.slice (some ⟨g, 0, none⟩) n cap) l'.length (l'.flatMap enc) := by
  obtain ⟨h1, h2⟩ := h
  rcases h2 with ⟨h2, _⟩ | ⟨g', cap', cur, hv, hb, hg, hc, hm, hs, ht⟩
  · cases h2
  · cases hv
    have hlt : g < w.heap.size := (Array.getElem?_eq_some_iff.1 hg).1
    refine ⟨length_flatMap hk l', .inr ⟨g, cap, putCells id 0 (flatK enc k l'.toArray) cur, by rw [hl], hb, ?_, by omega, hm, by simp [putCells, hs], ?_⟩⟩
    · show (grow (putRow id (Sort.ahead w m) g 0 (flatK enc k l'.toArray)) os).heap[g]? = _
      simp only [grow, putRow, mapBlock, Sort.ahead]
      rw [Array.getElem?_append_left (by simpa using hlt)]
      rw [Array.getElem?_modify, if_pos rfl, hg]
      rfl
    · apply List.ext_getElem?
      intro t
      have hle : l'.length * k ≤ cur.size := by rw [hs, hl]; exact Nat.mul_le_mul_right _ hc
      by_cases htl : t < l'.length * k
      · rw [List.getElem?_take_of_lt htl, flatMap_get hk l' t htl]
        have hts : t < cur.size := by omega
        simp only [putCells, Array.getElem?_toList, Array.getElem?_mapIdx]
        rw [Array.getElem?_eq_getElem hts]
        simp only [Option.map_some, Nat.sub_zero, Nat.zero_le, true_and, Nat.zero_add, id_eq]
        rw [if_pos (by simpa using htl), get_flatK _ _ _ _ (by simpa using htl)]
        simp
      · rw [List.getElem?_eq_none (by simp; omega), List.getElem?_eq_none (by rw [length_flatMap hk]; omega)]

theorem below_of_sort {w : World} {g m : Nat} {l' : List α} {os : Array Obj} (hg : g < w.heap.size) : Below g w (sortWorldK enc k w g 0 m l'.toArray os) := by
  refine ⟨rfl, rfl, rfl, ?_, fun i hi => ?_⟩
  · show w.heap.size ≤ (grow (putRow id (Sort.ahead w m) g 0 (flatK enc k l'.toArray)) os).heap.size
    simp [grow, putRow, mapBlock, Sort.ahead]
  · show (grow (putRow id (Sort.ahead w m) g 0 (flatK enc k l'.toArray)) os).heap[i]? = _
    simp only [grow, putRow, mapBlock, Sort.ahead]
    rw [Array.getElem?_append_left (by simp; omega), Array.getElem?_modify, if_neg (by omega)]

theorem others_of_sort {w : World} {g m : Nat} {l' : List α} {os : Array Obj} {i : Nat} (hi : i < w.heap.size) (hne : i ≠ g) : (sortWorldK enc k w g 0 m l'.toArray os).heap[i]? = w.heap[i]? := by
  show (grow (putRow id (Sort.ahead w m) g 0 (flatK enc k l'.toArray)) os).heap[i]? = _
  simp only [grow, putRow, mapBlock, Sort.ahead]
  rw [Array.getElem?_append_left (by simp; omega), Array.getElem?_modify, if_neg (by omega)]
end
end Go.Proofs.Ytamnffcafbfojaa
