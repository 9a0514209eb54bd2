/-
  The row of operations as a law: by depth, then by name; depths are within bounds.
-/
import Derived.Test.YtfoifdhcelcgiaaGreatDoorJe
namespace Go.Proofs.YtfoifdhcelcgiaaGreatDoor
open Go Go.Sort

theorem perm_sorted {α : Type} {R : α → α → Prop} : ∀ {l r : List α}, l.Perm r → (∀ x ∈ l, ∀ y ∈ l, R x y → R y x → x = y) → l.Pairwise R → r.Pairwise R → l = r
  | [], _, h, _, _, _ => by simpa using h.symm.eq_nil
  | _ :: _, [], h, _, _, _ => by simpa using h.eq_nil
  | a :: l, b :: r, h, ha, hl, hr => by
    have hab : a = b := by
      rcases List.mem_cons.1 (h.mem_iff.1 (List.mem_cons_self)) with h1 | h1
      · exact h1
      · rcases List.mem_cons.1 (h.mem_iff.2 (List.mem_cons_self)) with h2 | h2
        · exact h2.symm
        · exact ha a (by simp) b (by simp [h2]) ((List.pairwise_cons.1 hl).1 b h2) ((List.pairwise_cons.1 hr).1 a h1)
    subst hab
    rw [perm_sorted ((List.perm_cons _).1 h) (fun x hx y hy => ha x (by simp [hx]) y (by simp [hy])) (List.pairwise_cons.1 hl).2 (List.pairwise_cons.1 hr).2]

/-! ### names by a depth -/
def cfN (d : Nm → Int) (x y : Nm) : Int := if d x ≠ d y then d x - d y else cmpB x y
theorem cfN_lt (d : Nm → Int) (x y : Nm) : cfN d x y < 0 ↔ d x < d y ∨ d x = d y ∧ cmpB x y < 0 := by
  unfold cfN
  split
  · rename_i h
    constructor
    · intro h1; exact .inl (by omega)
    · rintro (h1 | h1)
      · omega
      · exact absurd h1.1 h
  · rename_i h
    have h : d x = d y := Decidable.not_not.1 h
    constructor
    · intro h1; exact .inr ⟨h, h1⟩
    · rintro (h1 | h1)
      · omega
      · exact h1.2
theorem cmpB_ntrans (x y z : Nm) (h1 : ¬ cmpB x y < 0) (h2 : ¬ cmpB y z < 0) : ¬ cmpB x z < 0 := by
  have := cmpB_swo.ntrans x y z (by simpa [ltOf] using h1) (by simpa [ltOf] using h2)
  simpa [ltOf] using this
theorem cfN_swo (d : Nm → Int) : SWO (ltOf (cfN d)) where
  irrefl x := by
    have := cmpB_self x
    simp only [ltOf, decide_eq_false_iff_not, cfN_lt]
    omega
  trans x y z h1 h2 := by
    simp only [ltOf, decide_eq_true_eq, cfN_lt] at *
    rcases h1 with h1 | ⟨h1, h1'⟩ <;> rcases h2 with h2 | ⟨h2, h2'⟩
    · exact .inl (by omega)
    · exact .inl (by omega)
    · exact .inl (by omega)
    · exact .inr ⟨by omega, cmpB_trans x y z h1' h2'⟩
  ntrans x y z h1 h2 := by
    simp only [ltOf, decide_eq_false_iff_not, cfN_lt, not_or, not_and] at *
    refine ⟨by omega, fun e => ?_⟩
    have e1 : d x = d y := by omega
    exact cmpB_ntrans x y z (h1.2 e1) (h2.2 (by omega))
theorem cfN_total (d : Nm → Int) (x y : Nm) (h1 : ltOf (cfN d) x y = false) (h2 : ltOf (cfN d) y x = false) : x = y := by
  simp only [ltOf, decide_eq_false_iff_not, cfN_lt, not_or, not_and] at h1 h2
  have e : d x = d y := by omega
  exact cmpB_total x y (by simpa [ltOf] using h1.2 e) (by simpa [ltOf] using h2.2 e.symm)

/-! ### operations -/
def bef (x y : NOp) : Bool := decide (x.2.depth < y.2.depth) || (decide (x.2.depth = y.2.depth) && decide (cmpB x.1 y.1 < 0))
theorem bef_iff {x y : NOp} : bef x y = true ↔ x.2.depth < y.2.depth ∨ x.2.depth = y.2.depth ∧ cmpB x.1 y.1 < 0 := by simp [bef]
theorem bef_false {x y : NOp} : bef x y = false ↔ y.2.depth < x.2.depth ∨ x.2.depth = y.2.depth ∧ ¬ cmpB x.1 y.1 < 0 := by
  rw [← Bool.not_eq_true, bef_iff]
  constructor
  · intro h
    simp only [not_or, not_and] at h
    rcases Int.lt_or_eq_of_le (show y.2.depth ≤ x.2.depth by omega) with h1 | h1
    · exact .inl h1
    · exact .inr ⟨h1.symm, h.2 h1.symm⟩
  · rintro (h | h) (h' | h')
    · omega
    · omega
    · omega
    · exact h.2 h'.2
theorem bef_ntrans {x y z : NOp} (h1 : bef x y = false) (h2 : bef y z = false) : bef x z = false := by
  rw [bef_false] at *
  rcases h1 with h1 | ⟨h1, h1'⟩ <;> rcases h2 with h2 | ⟨h2, h2'⟩
  · exact .inl (by omega)
  · exact .inl (by omega)
  · exact .inl (by omega)
  · exact .inr ⟨by omega, cmpB_ntrans _ _ _ h1' h2'⟩
theorem bef_anti {x y : NOp} (h : bef x y = false) (h' : bef y x = false) : x.1 = y.1 := by
  rw [bef_false] at *
  have h1 : ¬ cmpB x.1 y.1 < 0 := by
    rcases h with h | h
    · rcases h' with h' | h' <;> omega
    · exact h.2
  have h2 : ¬ cmpB y.1 x.1 < 0 := by
    rcases h' with h' | h'
    · rcases h with h | h <;> omega
    · exact h'.2
  exact cmpB_total _ _ (by simpa [ltOf] using h1) (by simpa [ltOf] using h2)
theorem bef_or {x y : NOp} : bef x y = false ∨ bef y x = false := by
  simp only [bef_false]
  have h := cmpB_swap x.1 y.1
  rcases Int.lt_trichotomy x.2.depth y.2.depth with h1 | h1 | h1
  · exact .inr (.inl h1)
  · by_cases h2 : cmpB x.1 y.1 < 0
    · exact .inr (.inr ⟨h1.symm, by omega⟩)
    · exact .inl (.inr ⟨h1, h2⟩)
  · exact .inl (.inl h1)
theorem bef_irrefl (x : NOp) : bef x x = false := bef_or.elim id id
def rowL (l : List NOp) : List NOp := l.mergeSort fun x y => !(bef y x)
theorem rowL_perm (l : List NOp) : (rowL l).Perm l := List.mergeSort_perm _ _
theorem rowL_mem {l : List NOp} {e : NOp} : e ∈ rowL l ↔ e ∈ l := (rowL_perm l).mem_iff
theorem rowL_length (l : List NOp) : (rowL l).length = l.length := (rowL_perm l).length_eq
theorem rowL_pairwise (l : List NOp) : (rowL l).Pairwise fun x y => bef y x = false := by
  have := List.pairwise_mergeSort (le := fun x y => !(bef y x))
    (fun a b c h1 h2 => by
      simp only [Bool.not_eq_true'] at h1 h2 ⊢
      exact bef_ntrans h2 h1)
    (fun a b => by
      simp only [Bool.or_eq_true, Bool.not_eq_true']
      exact bef_or) l
  exact this.imp (by simp)
theorem names_inj {l : List NOp} (h : (namesOf l).Nodup) {x y : NOp} (hx : x ∈ l) (hy : y ∈ l) (e : x.1 = y.1) : x = y := by
  obtain ⟨n, o⟩ := x
  obtain ⟨n', o'⟩ := y
  obtain rfl : n = n' := e
  have h1 := opAt_mem h hx
  rw [opAt_mem h hy] at h1
  cases h1
  rfl
theorem rowL_unique {l r : List NOp} (hd : (namesOf l).Nodup) (hp : r.Perm l) (hs : r.Pairwise fun x y => bef y x = false) : r = rowL l := by
  refine perm_sorted (hp.trans (rowL_perm l).symm) (fun x hx y hy h1 h2 => ?_) hs (rowL_pairwise l)
  exact names_inj hd (hp.mem_iff.1 hx) (hp.mem_iff.1 hy) (bef_anti h2 h1)
theorem namesOf_perm {l r : List NOp} (h : l.Perm r) : (namesOf l).Perm (namesOf r) := h.map _
theorem rowL_nd {l : List NOp} (h : (namesOf l).Nodup) : (namesOf (rowL l)).Nodup := (namesOf_perm (rowL_perm l)).nodup_iff.2 h
/-- whoever stands there stands strictly ahead of the next ones -/
theorem rowL_strict {l : List NOp} (h : (namesOf l).Nodup) : (rowL l).Pairwise fun x y => bef x y = true := by
  have h1 := rowL_pairwise l
  have h2 : (rowL l).Pairwise fun x y => x.1 ≠ y.1 := by
    have := rowL_nd h
    unfold namesOf at this
    exact List.pairwise_map.1 this
  refine (h1.and h2).imp (fun {x y} hh => ?_)
  rw [← Bool.not_eq_false]
  intro h3
  exact hh.2 (bef_anti h3 hh.1)
theorem depAt_in {l : List NOp} (hd : (namesOf l).Nodup) {e : NOp} (he : e ∈ l) : depAt l e.1 = e.2.depth := by
  unfold depAt
  rw [opAt_mem hd he]
  rfl
/-- the names of the row: the names sorted by the depths -/
theorem rowL_names {l : List NOp} (hd : (namesOf l).Nodup) {r : List Nm} (hp : r.Perm (namesOf l)) (hs : r.Pairwise fun x y => ltOf (cfN (depAt l)) y x = false) : r = namesOf (rowL l) := by
  refine perm_sorted (hp.trans (namesOf_perm (rowL_perm l)).symm) (fun x _ y _ h1 h2 => cfN_total _ _ _ h2 h1) hs ?_
  unfold namesOf
  rw [List.pairwise_map]
  refine (List.Pairwise.and_mem.1 (rowL_pairwise l)).imp (fun {x y} hh => ?_)
  obtain ⟨hx, hy, h⟩ := hh
  rw [rowL_mem] at hx hy
  rw [bef_false] at h
  simp only [ltOf, decide_eq_false_iff_not, cfN_lt, depAt_in hd hx, depAt_in hd hy, not_or, not_and]
  rcases h with h | h
  · exact ⟨by omega, fun e => by omega⟩
  · exact ⟨by omega, fun _ => h.2⟩

/-! ### depths -/
theorem nodup_le {α : Type} [DecidableEq α] : ∀ {l r : List α}, l.Nodup → (∀ x ∈ l, x ∈ r) → l.length ≤ r.length
  | [], _, _, _ => by simp
  | a :: l, r, h, hs => by
    rw [List.nodup_cons] at h
    have ha := hs a (by simp)
    have h1 : ∀ x ∈ l, x ∈ r.erase a := fun x hx => (List.mem_erase_of_ne (fun e => by subst e; exact h.1 hx)).2 (hs x (by simp [hx]))
    have h2 := nodup_le h.2 h1
    rw [List.length_erase_of_mem ha] at h2
    have := List.length_pos_of_mem ha
    simp only [List.length_cons]
    omega
theorem wrap_id (n : Int) (h1 : -9223372036854775808 ≤ n) (h2 : n ≤ 9223372036854775807) : IntKind.i64.wrap n = n := by
  unfold IntKind.wrap
  simp [IntKind.bits, IntKind.signed]
  split <;> omega
theorem foldl_max_mem (f : Nm → Int) : ∀ (ps : List Nm) (a : Int), ps.foldl (fun n p => max n (f p)) a = a ∨ ∃ p ∈ ps, f p = ps.foldl (fun n p => max n (f p)) a
  | [], a => .inl rfl
  | p :: ps, a => by
    simp only [List.foldl_cons]
    rcases foldl_max_mem f ps (max a (f p)) with h | ⟨q, hq, h⟩
    · rw [h]
      rcases Int.le_total a (f p) with h1 | h1
      · exact .inr ⟨p, by simp, by rw [Int.max_eq_right h1]⟩
      · exact .inl (Int.max_eq_left h1)
    · exact .inr ⟨q, by simp [hq], h⟩
theorem foldl_max_ge (f : Nm → Int) : ∀ (ps : List Nm) (a : Int), a ≤ ps.foldl (fun n p => max n (f p)) a ∧ ∀ p ∈ ps, f p ≤ ps.foldl (fun n p => max n (f p)) a
  | [], a => ⟨Int.le_refl _, by simp⟩
  | p :: ps, a => by
    simp only [List.foldl_cons]
    obtain ⟨h1, h2⟩ := foldl_max_ge f ps (max a (f p))
    refine ⟨by omega, fun q hq => ?_⟩
    rcases List.mem_cons.1 hq with rfl | hq
    · omega
    · exact h2 q hq
theorem deepL_ge0 (l : List NOp) (ps : List Nm) : 0 ≤ deepL l ps := (foldl_max_ge _ ps 0).1
theorem deepL_ge (l : List NOp) {ps : List Nm} {p : Nm} (hp : p ∈ ps) : depAt l p ≤ deepL l ps := (foldl_max_ge _ ps 0).2 p hp
theorem there_e {l : List NOp} {n : Nm} (h : hasN l n = true) : ∃ e ∈ l, e.1 = n := by
  obtain ⟨e, he, hn⟩ := List.any_eq_true.1 h
  exact ⟨e, he, by simpa using hn⟩
theorem dep_range {l : List NOp} (hd : (namesOf l).Nodup) {e : NOp} (he : e ∈ l) (hr : -9223372036854775808 ≤ e.2.depth ∧ e.2.depth ≤ 9223372036854775807) : depAt l e.1 ≤ 9223372036854775807 := by
  rw [depAt_in hd he]
  exact hr.2
/-- one of depth k + 1 has one of depth k beneath it -/
theorem DInv.under {s : DS} (h : DInv s) (hb : ∀ e ∈ s.ops, e.2.depth ≤ 9223372036854775807) {e : NOp} (he : e ∈ s.ops) (hk : 1 < e.2.depth) : ∃ x ∈ s.ops, x.2.depth = e.2.depth - 1 := by
  obtain ⟨h1, h2⟩ := h.closed e he
  have h0 := deepL_ge0 s.ops e.2.preds
  rcases foldl_max_mem (depAt s.ops) e.2.preds 0 with h3 | ⟨p, hp, h3⟩
  · have h4 : depthOf s.ops e.2 = 1 := by
      unfold depthOf deepL
      rw [h3]
      exact wrap_id _ (by omega) (by omega)
    omega
  · obtain ⟨x, hx, rfl⟩ := there_e (List.all_eq_true.1 h1 p hp)
    refine ⟨x, hx, ?_⟩
    have h5 := hb x hx
    rw [depAt_in h.nd1 hx] at h3
    have h6 : depthOf s.ops e.2 = IntKind.i64.wrap (x.2.depth + 1) := by
      unfold depthOf deepL
      rw [← h3]
    have h7 : 0 ≤ x.2.depth := by
      rw [h3]
      exact h0
    rcases Int.lt_or_eq_of_le h5 with h8 | h8
    · rw [wrap_id _ (by omega) (by omega)] at h6
      omega
    · rw [h8] at h6
      have : IntKind.i64.wrap (9223372036854775807 + 1) = -9223372036854775808 := by decide
      omega
theorem DInv.chain {s : DS} (h : DInv s) (hb : ∀ e ∈ s.ops, e.2.depth ≤ 9223372036854775807) : ∀ (k : Nat) (e : NOp), e ∈ s.ops → e.2.depth = k → ∀ j : Nat, 1 ≤ j → j ≤ k → ∃ x ∈ s.ops, x.2.depth = j
  | 0, _, _, _, j, h1, h2 => by omega
  | k + 1, e, he, hk, j, h1, h2 => by
    rcases Nat.lt_or_eq_of_le h2 with h3 | h3
    · obtain ⟨x, hx, hxd⟩ := h.under hb he (by omega)
      exact DInv.chain h hb k x hx (by omega) j h1 (by omega)
    · exact ⟨e, he, by omega⟩
theorem DInv.depth_le {s : DS} (h : DInv s) (hb : ∀ e ∈ s.ops, e.2.depth ≤ 9223372036854775807) (hl : s.ops.length ≤ 1000000000) {e : NOp} (he : e ∈ s.ops) : 1 ≤ e.2.depth ∧ e.2.depth ≤ s.ops.length := by
  have key : ∀ x ∈ s.ops, x.2.depth ≤ s.ops.length := fun x hx => by
    rcases Int.lt_or_le x.2.depth 1 with h1 | h1
    · omega
    · obtain ⟨k, hk⟩ := Int.eq_ofNat_of_zero_le (show 0 ≤ x.2.depth by omega)
      have hc := h.chain hb k x hx hk
      have hle := nodup_le (l := (List.range k).map fun j => ((j + 1 : Nat) : Int)) (r := s.ops.map (·.2.depth)) (by
        have := List.nodup_range (n := k)
        unfold List.Nodup at this ⊢
        rw [List.pairwise_map]
        exact this.imp (fun {a b} hab e => hab (by omega))) (fun j hj => by
        obtain ⟨i, hi, rfl⟩ := List.mem_map.1 hj
        obtain ⟨y, hy, hyd⟩ := hc (i + 1) (by omega) (by have := List.mem_range.1 hi; omega)
        exact List.mem_map.2 ⟨y, hy, hyd⟩)
      simp only [List.length_map, List.length_range] at hle
      omega
  refine ⟨?_, key e he⟩
  obtain ⟨h1, h2⟩ := h.closed e he
  have h0 := deepL_ge0 s.ops e.2.preds
  have h9 : deepL s.ops e.2.preds ≤ 1000000000 := by
    rcases foldl_max_mem (depAt s.ops) e.2.preds 0 with h3 | ⟨p, hp, h3⟩
    · unfold deepL
      rw [h3]
      omega
    · obtain ⟨x, hx, rfl⟩ := there_e (List.all_eq_true.1 h1 p hp)
      rw [depAt_in h.nd1 hx] at h3
      unfold deepL
      rw [← h3]
      have := key x hx
      omega
  rw [h2]
  unfold depthOf
  rw [wrap_id _ (by omega) (by omega)]
  omega
/-- what stands ahead has less depth -/
theorem DInv.pred_less {s : DS} (h : DInv s) (hb : ∀ e ∈ s.ops, e.2.depth ≤ 9223372036854775807) (hl : s.ops.length ≤ 1000000000) {e : NOp} (he : e ∈ s.ops) {p : Nm} (hp : p ∈ e.2.preds) : ∃ x ∈ s.ops, x.1 = p ∧ x.2.depth < e.2.depth := by
  obtain ⟨h1, h2⟩ := h.closed e he
  obtain ⟨x, hx, rfl⟩ := there_e (List.all_eq_true.1 h1 p hp)
  refine ⟨x, hx, rfl, ?_⟩
  have h3 := deepL_ge s.ops hp
  rw [depAt_in h.nd1 hx] at h3
  have h0 := deepL_ge0 s.ops e.2.preds
  have h9 : deepL s.ops e.2.preds ≤ 1000000000 := by
    rcases foldl_max_mem (depAt s.ops) e.2.preds 0 with h3 | ⟨p', hp', h3⟩
    · unfold deepL
      rw [h3]
      omega
    · obtain ⟨x', hx', rfl⟩ := there_e (List.all_eq_true.1 h1 p' hp')
      rw [depAt_in h.nd1 hx'] at h3
      unfold deepL
      rw [← h3]
      have := (h.depth_le hb hl hx').2
      omega
  rw [h2]
  unfold depthOf
  rw [wrap_id _ (by omega) (by omega)]
  omega
end Go.Proofs.YtfoifdhcelcgiaaGreatDoor
