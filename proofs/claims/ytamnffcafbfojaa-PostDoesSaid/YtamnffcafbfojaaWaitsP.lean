/-
  POST: what waits behind some sends and some acks, in order: lists and numbers alone.
-/
import Derived.Test.YtamnffcafbfojaaAlive
namespace Go.Proofs.Ytamnffcafbfojaa
open Go Go.RowKit

/-- before, in the order of the keys -/
def kbef (x y : Int × Int) : Prop := x.2 < y.2 ∨ (x.2 = y.2 ∧ x.1 < y.1)

theorem ksort_of (xs l : List (Int × Int)) (hp : xs.Perm l) (hl : l.Pairwise kbef) : ksort xs = l := by
  unfold ksort
  have tr : ∀ a b c : Int × Int, (!ltOf korder b a) = true → (!ltOf korder c b) = true → (!ltOf korder c a) = true := fun a b c h1 h2 => by
    rw [Bool.not_eq_true'] at *
    exact korder_swo.ntrans _ _ _ h2 h1
  have to : ∀ a b : Int × Int, ((!ltOf korder b a) || (!ltOf korder a b)) = true := fun a b => by
    cases h1 : ltOf korder b a
    · rfl
    · have : ltOf korder a b = false := (ltOf_no a b).2 (by have := (ltOf_yes b a).1 h1; omega)
      rw [this]; rfl
  refine List.Perm.eq_of_pairwise (le := fun a b => (!ltOf korder b a) = true) (fun a b _ _ h1 h2 => ?_) (List.pairwise_mergeSort tr to xs) (hl.imp ?_) ((List.mergeSort_perm xs _).trans hp)
  · rw [Bool.not_eq_true'] at *
    exact korder_total a b h2 h1
  · intro a b h
    rw [Bool.not_eq_true']
    exact (ltOf_no b a).2 (by unfold kbef at h; omega)

theorem nodup_of_kbef {l : List (Int × Int)} (h : l.Pairwise kbef) : l.Nodup := h.imp (fun {a b} h e => by subst e; unfold kbef at h; omega)

/-! ### one bit of a mask -/
def odd (m : Int) (k : Nat) : Bool := (m / 2 ^ k).tmod 2 != 0

theorem bits_one (x : Int) : bits BinOp.and IntKind.i64 x 1 = x % 2 := by
  show IntKind.i64.wrap ((BitVec.ofInt 64 x &&& BitVec.ofInt 64 1).toNat : Int) = _
  have h1 : (BitVec.ofInt 64 1).toNat = 1 := rfl
  rw [BitVec.toNat_and, h1, Nat.and_one_is_mod, BitVec.toNat_ofInt]
  have h2 : ((x % ((2 ^ 64 : Nat) : Int)).toNat % 2 : Nat) = (x % 2).toNat := by omega
  rw [h2]
  have h3 : ((x % 2).toNat : Int) = x % 2 := by omega
  rw [h3]
  exact IntWalk.i64_in _ (by omega)

theorem tmod_two (x : Int) : x.tmod 2 = 0 ↔ x % 2 = 0 := by
  rw [← Int.dvd_iff_tmod_eq_zero, Int.dvd_iff_emod_eq_zero]

theorem bit_odd (m : Int) (k : Nat) : bit m k = odd m k := by
  unfold bit odd
  rw [bits_one]
  have h := tmod_two (m / 2 ^ k)
  generalize m / 2 ^ k = x at *
  rw [Bool.eq_iff_iff, beq_iff_eq, bne_iff_ne]
  omega

/-! ### what is sent -/
def Zero (W : List Dv) : Prop := ∀ d ∈ W, d.age = 0
def keyIn (W : List Dv) (x : Int × Int) : Prop := ∃ d ∈ W, d.key = x

theorem keyIn_sent1 (W : List Dv) (s t : Int) (x : Int × Int) : keyIn (sent1 W s t) x ↔ x = (t, s) ∨ keyIn W x := by
  unfold keyIn sent1
  constructor
  · rintro ⟨d, hd, rfl⟩
    rcases List.mem_cons.1 hd with rfl | hd
    · exact .inl rfl
    · exact .inr ⟨d, (List.mem_filter.1 hd).1, rfl⟩
  · rintro (rfl | ⟨d, hd, rfl⟩)
    · exact ⟨_, List.mem_cons_self, rfl⟩
    · by_cases h : d.key = (t, s)
      · exact ⟨_, List.mem_cons_self, h.symm⟩
      · exact ⟨d, List.mem_cons_of_mem _ (List.mem_filter.2 ⟨hd, by simpa using h⟩), rfl⟩

theorem zero_sent1 {W : List Dv} (h : Zero W) (s t : Int) : Zero (sent1 W s t) := by
  intro d hd
  rcases List.mem_cons.1 hd with rfl | hd
  · rfl
  · exact h d (List.mem_filter.1 hd).1

theorem keyIn_sentN (W : List Dv) (s m : Int) (x : Int × Int) : ∀ n : Nat, keyIn (sentN W s m n) x ↔ (∃ k : Nat, k < n ∧ bit m k = true ∧ x = ((k : Int), s)) ∨ keyIn W x
  | 0 => by simp [sentN]
  | n + 1 => by
    unfold sentN
    by_cases hb : bit m n = true
    · rw [if_pos hb, keyIn_sent1, keyIn_sentN W s m x n]
      constructor
      · rintro (h | ⟨k, h1, h2⟩ | h)
        · exact .inl ⟨n, by omega, hb, h⟩
        · exact .inl ⟨k, by omega, h2⟩
        · exact .inr h
      · rintro (⟨k, h1, h2, h3⟩ | h)
        · by_cases hk : k = n
          · subst hk; exact .inl h3
          · exact .inr (.inl ⟨k, by omega, h2, h3⟩)
        · exact .inr (.inr h)
    · rw [if_neg hb, keyIn_sentN W s m x n]
      constructor
      · rintro (⟨k, h1, h2⟩ | h)
        · exact .inl ⟨k, by omega, h2⟩
        · exact .inr h
      · rintro (⟨k, h1, h2, h3⟩ | h)
        · by_cases hk : k = n
          · subst hk; exact absurd h2 hb
          · exact .inl ⟨k, by omega, h2, h3⟩
        · exact .inr h

theorem zero_sentN {W : List Dv} (h : Zero W) (s m : Int) : ∀ n, Zero (sentN W s m n)
  | 0 => h
  | n + 1 => by
    unfold sentN
    split
    · exact zero_sent1 (zero_sentN h s m n) _ _
    · exact zero_sentN h s m n

/-- all masks, place by place, from 1 on -/
def sentL (masks : List Int) : Nat → List Dv
  | 0 => []
  | n + 1 => sentN (sentL masks n) (n + 1) (masks.getD n 0) 5

theorem keyIn_sentL (masks : List Int) (x : Int × Int) : ∀ n : Nat, keyIn (sentL masks n) x ↔ ∃ i k : Nat, i < n ∧ k < 5 ∧ odd (masks.getD i 0) k = true ∧ x = ((k : Int), (i : Int) + 1)
  | 0 => by simp [sentL, keyIn]
  | n + 1 => by
    unfold sentL
    rw [keyIn_sentN, keyIn_sentL masks x n]
    constructor
    · rintro (⟨k, h1, h2, h3⟩ | ⟨i, k, h1, h2, h3, h4⟩)
      · exact ⟨n, k, by omega, h1, by rw [← bit_odd]; exact h2, h3⟩
      · exact ⟨i, k, by omega, h2, h3, h4⟩
    · rintro ⟨i, k, h1, h2, h3, h4⟩
      by_cases hi : i = n
      · subst hi; exact .inl ⟨k, h2, by rw [bit_odd]; exact h3, h4⟩
      · exact .inr ⟨i, k, by omega, h2, h3, h4⟩

theorem zero_sentL (masks : List Int) : ∀ n, Zero (sentL masks n)
  | 0 => by intro d hd; cases hd
  | n + 1 => zero_sentN (zero_sentL masks n) _ _ _

/-- the acks of one node -/
def ackL (W : List Dv) (node : Int) (acks : List Int) : Nat → List Dv
  | 0 => W
  | n + 1 => acked (ackL W node acks n) (node, acks.getD n 0)

theorem keyIn_ackL (W : List Dv) (node : Int) (acks : List Int) (x : Int × Int) : ∀ n : Nat, keyIn (ackL W node acks n) x ↔ keyIn W x ∧ ∀ j, j < n → x ≠ (node, acks.getD j 0)
  | 0 => by simp [ackL]
  | n + 1 => by
    unfold ackL acked
    have ih := keyIn_ackL W node acks x n
    have h0 : keyIn ((ackL W node acks n).filter fun d => decide (d.key ≠ (node, acks.getD n 0))) x ↔ keyIn (ackL W node acks n) x ∧ x ≠ (node, acks.getD n 0) := by
      unfold keyIn
      constructor
      · rintro ⟨d, hd, rfl⟩
        exact ⟨⟨d, (List.mem_filter.1 hd).1, rfl⟩, by simpa using (List.mem_filter.1 hd).2⟩
      · rintro ⟨⟨d, hd, rfl⟩, hne⟩
        exact ⟨d, List.mem_filter.2 ⟨hd, by simpa using hne⟩, rfl⟩
    rw [h0, ih]
    constructor
    · rintro ⟨⟨h1, h2⟩, h3⟩
      refine ⟨h1, fun j hj => ?_⟩
      by_cases hjn : j = n
      · subst hjn; exact h3
      · exact h2 j (by omega)
    · rintro ⟨h1, h2⟩
      exact ⟨⟨h1, fun j hj => h2 j (by omega)⟩, h2 n (by omega)⟩

theorem zero_ackL {W : List Dv} (h : Zero W) (node : Int) (acks : List Int) : ∀ n, Zero (ackL W node acks n)
  | 0 => h
  | n + 1 => fun d hd => zero_ackL h node acks n d (List.mem_filter.1 hd).1

theorem getW_zero {W : List Dv} (h : Zero W) (x : Int × Int) : getW W x = 0 := by
  unfold getW
  cases hf : W.find? (fun d => decide (d.key = x)) with
  | none => rfl
  | some d => exact h d (List.mem_of_find?_eq_some hf)

/-! ### what the law expects, in its order -/
def okAck (node : Int) (i k : Nat) (a : Int) : Bool := (a != (i : Int) + 1) || ((k : Int) != node)
def waitsB (masks acks : List Int) (node : Int) (i k : Nat) : Bool := odd (masks.getD i 0) k && acks.all (okAck node i k)
def rowE (masks acks : List Int) (node : Int) (i k : Nat) : List (Int × Int) := ((List.range k).filter (waitsB masks acks node i)).map fun k : Nat => ((k : Int), (i : Int) + 1)
def preE (masks acks : List Int) (node : Int) (i k : Nat) : List (Int × Int) := (List.range i).flatMap (fun i => rowE masks acks node i 5) ++ rowE masks acks node i k

theorem preE_next (masks acks : List Int) (node : Int) (i : Nat) : preE masks acks node (i + 1) 0 = preE masks acks node i 5 := by
  simp [preE, rowE, List.range_succ]

theorem preE_yes {masks acks : List Int} {node : Int} {i k : Nat} (h : waitsB masks acks node i k = true) : preE masks acks node i (k + 1) = preE masks acks node i k ++ [((k : Int), (i : Int) + 1)] := by
  simp [preE, rowE, List.range_succ, h]

theorem preE_no {masks acks : List Int} {node : Int} {i k : Nat} (h : waitsB masks acks node i k = false) : preE masks acks node i (k + 1) = preE masks acks node i k := by
  simp [preE, rowE, List.range_succ, h]

theorem preE_prefix (masks acks : List Int) (node : Int) (i k : Nat) (hk : k ≤ 5) : ∀ n, i < n → preE masks acks node i k <+: preE masks acks node n 0 := by
  have h5 : preE masks acks node i k <+: preE masks acks node i 5 := by
    have : ∀ d, k + d ≤ 5 → preE masks acks node i k <+: preE masks acks node i (k + d) := by
      intro d
      induction d with
      | zero => intro _; exact List.prefix_refl _
      | succ d ih =>
        intro hd
        refine (ih (by omega)).trans ?_
        by_cases h : waitsB masks acks node i (k + d) = true
        · rw [← Nat.add_assoc, preE_yes h]; exact List.prefix_append _ _
        · rw [← Nat.add_assoc, preE_no (by simpa using h)]; exact List.prefix_refl _
    have := this (5 - k) (by omega)
    rwa [show k + (5 - k) = 5 by omega] at this
  intro n hn
  obtain ⟨d, rfl⟩ : ∃ d, n = i + 1 + d := ⟨n - (i + 1), by omega⟩
  refine h5.trans ?_
  rw [← preE_next]
  clear hn h5
  simp only [preE, rowE, List.range_zero, List.filter_nil, List.map_nil, List.append_nil]
  have hr := List.range_add (n := i + 1) (m := d)
  rw [hr, List.flatMap_append]
  exact List.prefix_append _ _

theorem mem_preE (masks acks : List Int) (node : Int) (n : Nat) (x : Int × Int) : x ∈ preE masks acks node n 0 ↔ ∃ i k : Nat, i < n ∧ k < 5 ∧ waitsB masks acks node i k = true ∧ x = ((k : Int), (i : Int) + 1) := by
  simp only [preE, rowE, List.range_zero, List.filter_nil, List.map_nil, List.append_nil, List.mem_flatMap, List.mem_range, List.mem_map, List.mem_filter]
  constructor
  · rintro ⟨i, hi, k, ⟨hk, hw⟩, rfl⟩
    exact ⟨i, k, hi, hk, hw, rfl⟩
  · rintro ⟨i, k, hi, hk, hw, rfl⟩
    exact ⟨i, hi, k, ⟨hk, hw⟩, rfl⟩

theorem rowE_sorted (masks acks : List Int) (node : Int) (i k : Nat) : (rowE masks acks node i k).Pairwise kbef := by
  unfold rowE
  rw [List.pairwise_map]
  refine (List.Pairwise.filter _ (List.pairwise_lt_range (n := k))).imp ?_
  intro a b h
  exact .inr ⟨rfl, Int.ofNat_lt.2 h⟩

theorem preE_sorted (masks acks : List Int) (node : Int) : ∀ n, (preE masks acks node n 0).Pairwise kbef
  | 0 => by simp [preE, rowE]
  | n + 1 => by
    have ih := preE_sorted masks acks node n
    have e : preE masks acks node (n + 1) 0 = preE masks acks node n 0 ++ rowE masks acks node n 5 := by simp [preE, rowE, List.range_succ]
    rw [e, List.pairwise_append]
    refine ⟨ih, rowE_sorted _ _ _ _ _, fun a ha b hb => ?_⟩
    obtain ⟨i, k, h1, h2, h3, rfl⟩ := (mem_preE _ _ _ _ _).1 ha
    unfold rowE at hb
    obtain ⟨k', _, rfl⟩ := List.mem_map.1 hb
    unfold kbef
    simp only
    omega

/-- what is left is what the law expects -/
theorem left_is (masks acks : List Int) (node : Int) {W : List Dv} (hW : W = ackL (sentL masks masks.length) node acks acks.length) (hn : (W.map Dv.key).Nodup) :
    (W.map Dv.key).Perm (preE masks acks node masks.length 0) := by
  refine (List.perm_ext_iff_of_nodup hn (nodup_of_kbef (preE_sorted _ _ _ _))).2 fun x => ?_
  have h0 : x ∈ W.map Dv.key ↔ keyIn W x := by simp [keyIn]
  rw [h0, hW, keyIn_ackL, keyIn_sentL, mem_preE]
  constructor
  · rintro ⟨⟨i, k, h1, h2, h3, rfl⟩, h4⟩
    refine ⟨i, k, h1, h2, ?_, rfl⟩
    unfold waitsB
    rw [h3, Bool.true_and, List.all_eq_true]
    intro a ha
    obtain ⟨j, hj, rfl⟩ := List.getElem_of_mem ha
    have := h4 j hj
    rw [List.getD_eq_getElem?_getD, List.getElem?_eq_getElem hj, Option.getD_some] at this
    unfold okAck
    by_cases e1 : acks[j] = (i : Int) + 1
    · have : ¬ (k : Int) = node := fun e2 => this (by rw [e1, e2])
      simp [this]
    · simp [e1]
  · rintro ⟨i, k, h1, h2, h3, rfl⟩
    unfold waitsB at h3
    rw [Bool.and_eq_true, List.all_eq_true] at h3
    refine ⟨⟨i, k, h1, h2, h3.1, rfl⟩, fun j hj e => ?_⟩
    have h4 := h3.2 (acks.getD j 0) (by rw [List.getD_eq_getElem?_getD, List.getElem?_eq_getElem hj, Option.getD_some]; exact List.getElem_mem _)
    unfold okAck at h4
    have e1 := (Prod.mk.inj e).1
    have e2 := (Prod.mk.inj e).2
    rw [← e2, ← e1] at h4
    simp at h4

theorem length_preE (masks acks : List Int) (node : Int) : ∀ n, (preE masks acks node n 0).length ≤ 5 * n
  | 0 => by simp [preE, rowE]
  | n + 1 => by
    have ih := length_preE masks acks node n
    have e : preE masks acks node (n + 1) 0 = preE masks acks node n 0 ++ rowE masks acks node n 5 := by simp [preE, rowE, List.range_succ]
    have h2 : (rowE masks acks node n 5).length ≤ 5 := by
      unfold rowE
      rw [List.length_map]
      exact Nat.le_trans (List.length_filter_le _ _) (by simp)
    rw [e, List.length_append]
    omega

/-- the one that is met next -/
theorem preE_at {masks acks : List Int} {node : Int} {i k : Nat} (hi : i < masks.length) (hk : k < 5) (h : waitsB masks acks node i k = true) :
    (preE masks acks node i k).length < (preE masks acks node masks.length 0).length ∧ (preE masks acks node masks.length 0)[(preE masks acks node i k).length]! = ((k : Int), (i : Int) + 1) := by
  obtain ⟨t, ht⟩ := preE_prefix masks acks node i (k + 1) (by omega) masks.length hi
  rw [preE_yes h] at ht
  have hl : (preE masks acks node i k).length < (preE masks acks node masks.length 0).length := by rw [← ht]; simp
  refine ⟨hl, ?_⟩
  rw [getElem!_pos (preE masks acks node masks.length 0) _ hl]
  have : (preE masks acks node masks.length 0)[(preE masks acks node i k).length]? = some ((k : Int), (i : Int) + 1) := by
    rw [← ht]
    simp
  rw [List.getElem?_eq_getElem hl] at this
  exact Option.some.inj this
end Go.Proofs.Ytamnffcafbfojaa
