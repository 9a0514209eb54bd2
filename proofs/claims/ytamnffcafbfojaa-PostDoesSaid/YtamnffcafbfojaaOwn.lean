/-
  APPEND ONTO A ROW OF THE CALL'S OWN, THE SOURCE NIL OR NOT: as a run, at a list of operations, at a step of a region that draws its order.
-/
import Derived.Test.YtamnffcafbfojaaAgg
import Derived.Maps.AppendAt
import Derived.Deep.AppendLies
import Derived.Deep.RegionHeld3
namespace Go.Proofs.Ytamnffcafbfojaa
open Go Go.RowKit

section
variable {P : Program} {w : World}

/-- what a slice's cells are: this list of values, from here on -/
def SrcAt (w : World) (A : Option Addr) (cs : List Value) : Prop := ∀ j u, cs[j]? = some u → ∃ b off, A = some ⟨b, off, none⟩ ∧ w.cell? ⟨b, off + j, none⟩ = some u

theorem SrcAt.nil (w : World) (A : Option Addr) : SrcAt w A [] := fun j u h => by simp at h

theorem SrcAt.below {w w' : World} {B : Nat} {A : Option Addr} {cs : List Value} (h : SrcAt w A cs) (hB : ∀ b off, A = some ⟨b, off, none⟩ → b < B) (hb : Below B w w') : SrcAt w' A cs := fun j u hj => by
  obtain ⟨b, off, e, hc⟩ := h j u hj
  exact ⟨b, off, e, (hb.cell (p := ⟨b, off + j, none⟩) (hB b off e)).trans hc⟩

theorem SrcAt.of_block {w w' : World} {A : Option Addr} {cs : List Value} (h : SrcAt w A cs) (hb : ∀ b off, A = some ⟨b, off, none⟩ → w'.heap[b]? = w.heap[b]?) : SrcAt w' A cs := fun j u hj => by
  obtain ⟨b, off, e, hc⟩ := h j u hj
  exact ⟨b, off, e, (World.cell?_of_block (a := ⟨b, off + j, none⟩) (hb b off e)).trans hc⟩

theorem src_new (w : World) (cs : List Value) (t : TypeId) : SrcAt (w.alloc (.cells cs.toArray t)) (some ⟨w.heap.size, 0, none⟩) cs := fun j u hj => by
  refine ⟨w.heap.size, 0, rfl, ?_⟩
  have := cellsAt_new w cs.toArray t j u (by simpa using hj)
  simpa using this

/-- a row that is owned, as a source -/
theorem ownsRow_src {base : Nat} {e : TypeId} {size n cap : Nat} {p : Option Addr} {xs : List Value} (h : w.ownsRow base e size (.slice p n cap) n xs) : SrcAt w p xs := fun j u hj => by
  rcases h.2 with ⟨_, h0⟩ | ⟨g, cap0, cur, hv, hg, hh, h1, h2, h3, h4⟩
  · have := h.1
    rw [h0, Nat.zero_mul] at this
    rw [List.eq_nil_of_length_eq_zero this] at hj
    simp at hj
  · simp at hv
    obtain ⟨rfl, rfl⟩ := hv
    refine ⟨g, 0, rfl, ?_⟩
    rw [cell_of_row _ _ _ _ _ _ hh, Nat.zero_add]
    rw [← h4] at hj
    rw [List.getElem?_take] at hj
    split at hj
    · simpa using hj
    · cases hj

theorem ownsRow_at {base : Nat} {e : TypeId} {size n cap : Nat} {p : Option Addr} {xs : List Value} (h : w.ownsRow base e size (.slice p n cap) n xs) {b off : Nat} (hp : p = some ⟨b, off, none⟩) : base ≤ b ∧ b < w.heap.size ∧ off = 0 ∧ n ≤ cap := by
  rcases h.2 with ⟨hv, _⟩ | ⟨g, cap0, cur, hv, hg, hh, h1, h2, h3, h4⟩
  · simp at hv
    rw [hv.1] at hp
    cases hp
  · simp at hv
    obtain ⟨e1, e2⟩ := hv
    rw [e1] at hp
    simp at hp
    obtain ⟨rfl, rfl⟩ := hp
    exact ⟨hg, (Array.getElem?_eq_some_iff.1 hh).1, rfl, by omega⟩

theorem ownsRow_keep {w' : World} {base : Nat} {e : TypeId} {size n : Nat} {v : Value} {xs : List Value} (h : w.ownsRow base e size v n xs) (hk : ∀ g, v.ownBlock = some g → w'.heap[g]? = w.heap[g]?) : w'.ownsRow base e size v n xs := by
  refine ⟨h.1, ?_⟩
  rcases h.2 with h0 | ⟨g, cap0, cur, hv, hg, hh, h1⟩
  · exact .inl h0
  · exact .inr ⟨g, cap0, cur, hv, hg, (hk g (by rw [hv]; rfl)).trans hh, h1⟩

theorem ownsRow_lt {base : Nat} {e : TypeId} {size n : Nat} {v : Value} {xs : List Value} (h : w.ownsRow base e size v n xs) {g : Nat} (hg : v.ownBlock = some g) : base ≤ g ∧ g < w.heap.size := by
  rcases h.2 with ⟨rfl, _⟩ | ⟨g', cap0, cur, rfl, hg', hh, h1⟩
  · cases hg
  · simp [Value.ownBlock] at hg
    subst hg
    exact ⟨hg', (Array.getElem?_eq_some_iff.1 hh).1⟩

theorem ownsRow_below {w' : World} {base B : Nat} {e : TypeId} {size n : Nat} {v : Value} {xs : List Value} (h : w.ownsRow base e size v n xs) (hb : Below B w w') (hB : w.heap.size ≤ B) : w'.ownsRow base e size v n xs :=
  ownsRow_keep h fun g hg => hb.block g (Nat.lt_of_lt_of_le (ownsRow_lt h hg).2 hB)

/-- rows of unlike elements never share a block -/
theorem ownsRow_ne {base : Nat} {e t : TypeId} {size n g : Nat} {v : Value} {xs : List Value} {cs : Array Value} {fz : Nat × Nat} (h : w.ownsRow base e size v n xs) (hb : w.heap[g]? = some (.cells cs t fz)) (hne : e ≠ t) : v.ownBlock ≠ some g := by
  intro hv
  rcases h.2 with ⟨rfl, _⟩ | ⟨g', cap0, cur, rfl, hg', hh, h1⟩
  · cases hv
  · simp [Value.ownBlock] at hv
    subst hv
    rw [hh] at hb
    simp at hb
    exact hne hb.2.1

theorem ownsRow_ne2 {base base' : Nat} {e e' : TypeId} {size size' n n' g : Nat} {v v' : Value} {xs xs' : List Value} (h : w.ownsRow base e size v n xs) (h' : w.ownsRow base' e' size' v' n' xs') (hne : e ≠ e') (hg : v'.ownBlock = some g) : v.ownBlock ≠ some g := by
  rcases h'.2 with ⟨rfl, _⟩ | ⟨g', cap0, cur, rfl, hg', hh, h1⟩
  · cases hg
  · simp [Value.ownBlock] at hg
    subst hg
    exact ownsRow_ne h hh hne

/-- its first, and its last, as sources -/
theorem SrcAt.take {A : Option Addr} {cs : List Value} (h : SrcAt w A cs) (k : Nat) : SrcAt w A (cs.take k) := fun j u hj => by
  rw [List.getElem?_take] at hj
  split at hj
  · exact h j u hj
  · cases hj

theorem SrcAt.drop {b off : Nat} {cs : List Value} (h : SrcAt w (some ⟨b, off, none⟩) cs) (k : Nat) : SrcAt w (some ⟨b, off + k, none⟩) (cs.drop k) := fun j u hj => by
  rw [List.getElem?_drop] at hj
  obtain ⟨b', off', e, hc⟩ := h (k + j) u hj
  simp at e
  obtain ⟨rfl, rfl⟩ := e
  exact ⟨b, off + k, rfl, by rw [Nat.add_assoc]; exact hc⟩

theorem run_append_src (base : Nat) (t ty e : TypeId) (i : TypeInfo) (z : Value) (size bytes : Nat) (ht : P.underlying t = some (.slice e)) (hi : P.info? e = some i) (hz : i.zero = some z)
    (hsize : i.size = size) (hby : i.bytes = bytes) (hzs : z.cells.size = size) (hsz : 0 < size)
    (v : Value) (n : Nat) (xs : List Value) (hown : w.ownsRow base e size v n xs)
    (A : Option Addr) (m c : Nat) (news : List Value) (hl : news.length = m * size) (hnews : SrcAt w A news) (hA : ∀ a, A = some a → a.spot = none) (h1 : ∀ u ∈ news, u.oneCell' = true)
    (h63 : n + m ≤ maxLen) (hbytes : (n + m) * bytes ≤ 140737488355328) (hbase : base ≤ w.heap.size) :
    ∃ v' w', (Builtin.append_ #[t, t] ty #[v, .slice A m c]).run P w = .ok v' w' ∧ w'.ownsRow base e size v' (n + m) (xs ++ news) ∧ w.grownBy w' v.ownBlock ∧ (v'.ownBlock = v.ownBlock ∨ v'.ownBlock = some w.heap.size) := by
  cases A with
  | some ad =>
    obtain ⟨b, off, spot⟩ := ad
    have : spot = none := hA _ rfl
    subst this
    obtain ⟨v', w', h1, h2, h3, _, h5⟩ := run_append_own_at (P := P) w base t ty e i z size bytes ht hi hz hsize hby hzs hsz v n xs hown ⟨b, off, none⟩ m c news hl (fun j u hj => by
      obtain ⟨b', off', e', hc⟩ := hnews j u hj
      simp at e'
      obtain ⟨rfl, rfl⟩ := e'
      have hadd : (⟨b, off, none⟩ : Addr).add j = ⟨b, off + j, none⟩ := by unfold Addr.add; split <;> simp_all
      rw [hadd]
      exact hc) h1 h63 hbytes hbase
    exact ⟨v', w', h1, h2, h3, h5⟩
  | none =>
    have hn : news = [] := by
      cases news with
      | nil => rfl
      | cons u news =>
        obtain ⟨b, off, h, _⟩ := hnews 0 u rfl
        cases h
    subst hn
    have hm : m = 0 := by
      rcases Nat.eq_zero_or_pos m with h | h
      · exact h
      · have := Nat.mul_pos h hsz
        simp at hl
        omega
    subst hm
    refine ⟨v, w, ?_, by simpa using hown, World.grownBy.refl w _, .inl rfl⟩
    rcases hown.2 with ⟨rfl, rfl⟩ | ⟨g, cap, cur, rfl, _, _, hnc, _⟩
    · simp [Builtin.append_, run_underlying ht, sizeOf, typeInfo, hi, Builtin.lenOf, Builtin.firstCells]
    · simp [Builtin.append_, run_underlying ht, sizeOf, typeInfo, hi, Builtin.lenOf, Builtin.firstCells, hnc, storeCells]

theorem wp_append_src {o : Oper} {a : Act} {K : Act → World → Prop} {Q : Exit → Act → World → Prop} (s x : Operand) (t : TypeId)
    (ho : o.op = .call { callee := .builtin .append, args := #[s, x], argTypes := #[t, t] })
    (base : Nat) (e : TypeId) (i : TypeInfo) (z : Value) (size bytes : Nat) (ht : P.underlying t = some (.slice e)) (hi : P.info? e = some i) (hz : i.zero = some z)
    (hsize : i.size = size) (hby : i.bytes = bytes) (hzs : z.cells.size = size) (hsz : 0 < size)
    (v : Value) (n : Nat) (xs : List Value) (hs : a.eval s = v) (hown : w.ownsRow base e size v n xs)
    (A : Option Addr) (m c : Nat) (news : List Value) (hx : a.eval x = .slice A m c) (hl : news.length = m * size) (hnews : SrcAt w A news) (hA : ∀ a, A = some a → a.spot = none) (h1 : ∀ u ∈ news, u.oneCell' = true)
    (h63 : n + m ≤ maxLen) (hbytes : (n + m) * bytes ≤ 140737488355328) (hbase : base ≤ w.heap.size)
    (h : ∀ v' w', w'.ownsRow base e size v' (n + m) (xs ++ news) → w.grownBy w' v.ownBlock → (v'.ownBlock = v.ownBlock ∨ v'.ownBlock = some w.heap.size) → K (a.put o.dst v') w') : o.wp P a w K Q := by
  obtain ⟨v', w', hrun, h2, h3, h4⟩ := run_append_src (P := P) base t o.type e i z size bytes ht hi hz hsize hby hzs hsz v n xs hown A m c news hl hnews hA h1 h63 hbytes hbase
  unfold Oper.wp execOp
  simp only [ho, resolve, invoke, builtin, Sem.run_bind, Sem.run_pure, Result.andThen_ok, List.map_toArray, List.map_cons, List.map_nil, hs, hx, hrun]
  exact h v' w' h2 h3 h4

theorem wpList_append_src {ops : Array Oper} {rest : List Oper} {o : Oper} {a : Act} {Q : Exit → Act → World → Prop} (hgd : o.guard = none) (s x : Operand) (t : TypeId)
    (ho : o.op = .call { callee := .builtin .append, args := #[s, x], argTypes := #[t, t] })
    (base : Nat) (e : TypeId) (i : TypeInfo) (z : Value) (size bytes : Nat) (ht : P.underlying t = some (.slice e)) (hi : P.info? e = some i) (hz : i.zero = some z)
    (hsize : i.size = size) (hby : i.bytes = bytes) (hzs : z.cells.size = size) (hsz : 0 < size)
    (v : Value) (n : Nat) (xs : List Value) (hs : a.eval s = v) (hown : w.ownsRow base e size v n xs)
    (A : Option Addr) (m c : Nat) (news : List Value) (hx : a.eval x = .slice A m c) (hl : news.length = m * size) (hnews : SrcAt w A news) (hA : ∀ a, A = some a → a.spot = none) (h1 : ∀ u ∈ news, u.oneCell' = true)
    (h63 : n + m ≤ maxLen) (hbytes : (n + m) * bytes ≤ 140737488355328) (hbase : base ≤ w.heap.size)
    (h : ∀ v' w', w'.ownsRow base e size v' (n + m) (xs ++ news) → w.grownBy w' v.ownBlock → (v'.ownBlock = v.ownBlock ∨ v'.ownBlock = some w.heap.size) → wpList P ops Q rest (a.put o.dst v') w') : wpList P ops Q (o :: rest) a w :=
  wpList_plain hgd fun _ hK => wp_append_src s x t ho base e i z size bytes ht hi hz hsize hby hzs hsz v n xs hs hown A m c news hx hl hnews hA h1 h63 hbytes hbase fun v' w' h2 h3 h4 => hK _ _ (h v' w' h2 h3 h4)

theorem step_append_src {ops : Array Oper} {o : Oper} {a : Act} {K : Act → World → Prop} {Q : Exit → Act → World → Prop} {E : Prop} (hgd : o.guard = none) (s x : Operand) (t : TypeId)
    (ho : o.op = .call { callee := .builtin .append, args := #[s, x], argTypes := #[t, t] })
    (base : Nat) (e : TypeId) (i : TypeInfo) (z : Value) (size bytes : Nat) (ht : P.underlying t = some (.slice e)) (hi : P.info? e = some i) (hz : i.zero = some z)
    (hsize : i.size = size) (hby : i.bytes = bytes) (hzs : z.cells.size = size) (hsz : 0 < size)
    (v : Value) (n : Nat) (xs : List Value) (hs : a.eval s = v) (hown : w.ownsRow base e size v n xs)
    (A : Option Addr) (m c : Nat) (news : List Value) (hx : a.eval x = .slice A m c) (hl : news.length = m * size) (hnews : SrcAt w A news) (hA : ∀ a, A = some a → a.spot = none) (h1 : ∀ u ∈ news, u.oneCell' = true)
    (h63 : n + m ≤ maxLen) (hbytes : (n + m) * bytes ≤ 140737488355328) (hbase : base ≤ w.heap.size)
    (h : ∀ v' w', w'.ownsRow base e size v' (n + m) (xs ++ news) → w.grownBy w' v.ownBlock → (v'.ownBlock = v.ownBlock ∨ v'.ownBlock = some w.heap.size) → K (a.put o.dst v') w') :
    if Region.wanted o (yielded ops a.tmps) = true then Oper.wp P o a w K Q else E := by
  have hw : Region.wanted o (yielded ops a.tmps) = true := by simp [Region.wanted, hgd]
  rw [if_pos hw]
  exact wp_append_src s x t ho base e i z size bytes ht hi hz hsize hby hzs hsz v n xs hs hown A m c news hx hl hnews hA h1 h63 hbytes hbase h

/-- append onto a slice that is full: always a new row -/
theorem run_append_full (base : Nat) (t ty e : TypeId) (i : TypeInfo) (z : Value) (size bytes : Nat) (ht : P.underlying t = some (.slice e)) (hi : P.info? e = some i) (hz : i.zero = some z)
    (hsize : i.size = size) (hby : i.bytes = bytes) (hzs : z.cells.size = size) (hsz : 0 < size)
    (A : Option Addr) (k : Nat) (olds : List Value) (hlo : olds.length = k * size) (holds : SrcAt w A olds) (hA : ∀ a, A = some a → a.spot = none)
    (ad : Addr) (m c : Nat) (news : List Value) (hl : news.length = m * size) (hnews : ∀ j u, news[j]? = some u → w.cell? (ad.add j) = some u) (h1 : ∀ u ∈ news, u.oneCell' = true) (hm : 0 < m)
    (h63 : k + m ≤ maxLen) (hbytes : (k + m) * bytes ≤ 140737488355328) (hbase : base ≤ w.heap.size) :
    ∃ v' w', (Builtin.append_ #[t, t] ty #[.slice A k k, .slice (some ad) m c]).run P w = .ok v' w' ∧ w'.ownsRow base e size v' (k + m) (olds ++ news) ∧ w.grownBy w' none ∧ v'.ownBlock = some w.heap.size := by
  cases A with
  | none =>
    have ho : olds = [] := by
      cases olds with
      | nil => rfl
      | cons u olds => obtain ⟨b, off, h, _⟩ := holds 0 u rfl; cases h
    subst ho
    have hk : k = 0 := by
      rcases Nat.eq_zero_or_pos k with h | h
      · exact h
      · have := Nat.mul_pos h hsz; simp at hlo; omega
    subst hk
    obtain ⟨v', w', h2, h3, h4, h5, h6⟩ := run_append_own_at (P := P) w base t ty e i z size bytes ht hi hz hsize hby hzs hsz (.slice none 0 0) 0 [] (World.ownsRow_nil w base e size) ad m c news hl hnews h1 h63 hbytes hbase
    refine ⟨v', w', h2, h3, h4, ?_⟩
    rcases h6 with h6 | h6
    · exact absurd (h3.2) (by
        rintro (⟨h7, h8⟩ | ⟨g, cap, cur, h7, _⟩)
        · omega
        · rw [h7] at h6; cases h6)
    · exact h6
  | some a =>
    obtain ⟨b, off, spot⟩ := a
    have : spot = none := hA _ rfl
    subst this
    subst hsize
    subst hby
    have hr := run_append_grow (P := P) w t ty e i z ht hi hz ⟨b, off, none⟩ k k olds hlo (fun j u hj => by
      obtain ⟨b', off', e', hc⟩ := holds j u hj
      simp at e'
      obtain ⟨rfl, rfl⟩ := e'
      have hadd : (⟨b, off, none⟩ : Addr).add j = ⟨b, off + j, none⟩ := by unfold Addr.add; split <;> simp_all
      rw [hadd]
      exact hc) ad m c news hl hnews (by omega) (by simp only [maxLen] at h63; omega) (growslice_fits (by omega) hbytes)
    have hlen : (olds ++ news).length = (k + m) * i.size := by rw [List.length_append, hlo, hl, Nat.add_mul]
    refine ⟨_, _, hr, ⟨hlen, .inr ⟨w.heap.size, _, _, rfl, hbase, heap_alloc_new w.drew _, grownCap_ge w (k + m) k e, grownCap_le_maxLen w (k + m) k e h63, ?_, ?_⟩⟩, ⟨rfl, rfl, rfl, by simp, fun j hj _ => heap_alloc_old w.drew _ j hj⟩, rfl⟩
    · have := grownCap_ge w (k + m) k e
      simp only [Array.size_append, List.size_toArray, size_zeroCells, hzs, hlo, hl, ← Nat.add_mul]
      congr 1
      omega
    · simp only [Array.toList_append, List.append_assoc]
      rw [← List.append_assoc, ← hlen]
      exact List.take_left

theorem wpList_append_full {ops : Array Oper} {rest : List Oper} {o : Oper} {a : Act} {Q : Exit → Act → World → Prop} (hgd : o.guard = none) (s x : Operand) (t : TypeId)
    (ho : o.op = .call { callee := .builtin .append, args := #[s, x], argTypes := #[t, t] })
    (base : Nat) (e : TypeId) (i : TypeInfo) (z : Value) (size bytes : Nat) (ht : P.underlying t = some (.slice e)) (hi : P.info? e = some i) (hz : i.zero = some z)
    (hsize : i.size = size) (hby : i.bytes = bytes) (hzs : z.cells.size = size) (hsz : 0 < size)
    (A : Option Addr) (k : Nat) (hs : a.eval s = .slice A k k) (olds : List Value) (hlo : olds.length = k * size) (holds : SrcAt w A olds) (hA : ∀ a, A = some a → a.spot = none)
    (ad : Addr) (m c : Nat) (hx : a.eval x = .slice (some ad) m c) (news : List Value) (hl : news.length = m * size) (hnews : ∀ j u, news[j]? = some u → w.cell? (ad.add j) = some u) (h1 : ∀ u ∈ news, u.oneCell' = true) (hm : 0 < m)
    (h63 : k + m ≤ maxLen) (hbytes : (k + m) * bytes ≤ 140737488355328) (hbase : base ≤ w.heap.size)
    (h : ∀ v' w', w'.ownsRow base e size v' (k + m) (olds ++ news) → w.grownBy w' none → v'.ownBlock = some w.heap.size → wpList P ops Q rest (a.put o.dst v') w') : wpList P ops Q (o :: rest) a w :=
  wpList_plain hgd fun _ hK => by
    obtain ⟨v', w', hrun, h2, h3, h4⟩ := run_append_full (P := P) base t o.type e i z size bytes ht hi hz hsize hby hzs hsz A k olds hlo holds hA ad m c news hl hnews h1 hm h63 hbytes hbase
    unfold Oper.wp execOp
    simp only [ho, resolve, invoke, builtin, Sem.run_bind, Sem.run_pure, Result.andThen_ok, List.map_toArray, List.map_cons, List.map_nil, hs, hx, hrun]
    exact hK _ _ (h v' w' h2 h3 h4)

theorem run_sizeOf {w : World} {e : TypeId} {n : Nat} (hi : (P.info? e).map (·.size) = some n) : (Go.sizeOf e).run P w = .ok n w := sizeOf_of hi

/-- x[k:], as a source whose address is a letter -/
theorem wpList_slice_lo {ops : Array Oper} {rest : List Oper} {o : Oper} {a : Act} {Q : Exit → Act → World → Prop} (hgd : o.guard = none) (t : TypeId) (x y : Operand) (ho : o.op = .slice t x (some y) none none)
    (e : TypeId) (size : Nat) (ht : P.underlying t = some (.slice e)) (hi : (P.info? e).map (·.size) = some size) (p : Option Addr) (n c k : Nat) (kk : IntKind) (hx : a.eval x = .slice p n c) (hy : a.eval y = .int kk k) (hk : k ≤ n) (hn : n ≤ c)
    (cs : List Value) (hl : cs.length = n * size) (hcs : SrcAt w p cs) (hp : ∀ a, p = some a → a.spot = none)
    (h : ∀ A, SrcAt w A (cs.drop (k * size)) → (∀ a, A = some a → a.spot = none) → (∀ b off, A = some ⟨b, off, none⟩ → ∃ off', p = some ⟨b, off', none⟩) → wpList P ops Q rest (a.put o.dst (.slice A (n - k) (c - k))) w) : wpList P ops Q (o :: rest) a w :=
  wpList_plain hgd fun _ hK => by
    have he : P.elem t = e := by simp [Program.elem, ht]
    have ht' : P.underlying t = some (.slice (P.elem t)) := by rw [he]; exact ht
    unfold Oper.wp execOp
    simp only [ho, hx, hy, Option.map_some, Option.map_none, Sem.run_bind, Sem.run_pure, run_sliceAt_slice w t _ _ _ _ ht', run_slice_l w t p n c ht' kk k (by omega) (by omega), he, run_sizeOf hi, Result.andThen_ok, sliced, Int.toNat_natCast]
    refine hK _ _ (h _ ?_ ?_ ?_)
    · split
      · rename_i hck
        have : cs.drop (k * size) = [] := List.eq_nil_of_length_eq_zero (by rw [List.length_drop, hl, show n = k by omega]; omega)
        rw [this]
        exact SrcAt.nil _ _
      · cases p with
        | none =>
          have : cs = [] := by
            cases cs with
            | nil => rfl
            | cons u cs => obtain ⟨b, off, h, _⟩ := hcs 0 u rfl; cases h
          rw [this]
          simp only [List.drop_nil]
          exact SrcAt.nil _ _
        | some ad =>
          obtain ⟨b, off, spot⟩ := ad
          have : spot = none := hp _ rfl
          subst this
          have hadd : (⟨b, off, none⟩ : Addr).add (k * size) = ⟨b, off + k * size, none⟩ := by unfold Addr.add; split <;> simp_all
          simp only [Option.map_some, hadd]
          exact hcs.drop _
    · intro ad had
      split at had
      · exact hp ad had
      · cases p with
        | none => cases had
        | some ad' =>
          obtain ⟨b', off', spot⟩ := ad'
          have hs : spot = none := hp _ rfl
          subst hs
          have hadd : (⟨b', off', none⟩ : Addr).add (k * size) = ⟨b', off' + k * size, none⟩ := by unfold Addr.add; split <;> simp_all
          simp only [Option.map_some, hadd, Option.some.injEq] at had
          rw [← had]
    · intro b off hA
      split at hA
      · exact ⟨off, hA⟩
      · cases p with
        | none => cases hA
        | some ad' =>
          obtain ⟨b', off', spot⟩ := ad'
          have hs : spot = none := hp _ rfl
          subst hs
          have hadd : (⟨b', off', none⟩ : Addr).add (k * size) = ⟨b', off' + k * size, none⟩ := by unfold Addr.add; split <;> simp_all
          simp only [Option.map_some, hadd, Option.some.injEq, Addr.mk.injEq] at hA
          obtain ⟨rfl, _, _⟩ := hA
          exact ⟨off', rfl⟩

/-- x[:k:k] -/
theorem wpList_slice_full {ops : Array Oper} {rest : List Oper} {o : Oper} {a : Act} {Q : Exit → Act → World → Prop} (hgd : o.guard = none) (t : TypeId) (x y y' : Operand) (ho : o.op = .slice t x none (some y) (some y'))
    (e : TypeId) (size : Nat) (ht : P.underlying t = some (.slice e)) (hi : (P.info? e).map (·.size) = some size) (p : Option Addr) (n c k : Nat) (kk kk' : IntKind) (hx : a.eval x = .slice p n c) (hy : a.eval y = .int kk k) (hy' : a.eval y' = .int kk' k) (hk : k ≤ c)
    (hp : ∀ a, p = some a → a.spot = none)
    (h : wpList P ops Q rest (a.put o.dst (.slice p k k)) w) : wpList P ops Q (o :: rest) a w :=
  wpList_plain hgd fun _ hK => by
    have he : P.elem t = e := by simp [Program.elem, ht]
    have ht' : P.underlying t = some (.slice (P.elem t)) := by rw [he]; exact ht
    have hA : (if k = 0 then p else p.map (·.add (0 * size))) = p := by
      split
      · rfl
      · cases p with
        | none => rfl
        | some ad =>
          simp [Addr.add]
    unfold Oper.wp execOp
    simp only [ho, hx, hy, hy', Option.map_some, Option.map_none, Sem.run_bind, Sem.run_pure, run_sliceAt_slice w t _ _ _ _ ht', run_slice_hm w t p n c ht' kk kk' k k (by omega) (by omega) (by omega), he, run_sizeOf hi, Result.andThen_ok, sliced, Int.toNat_natCast, hA, Nat.sub_zero]
    exact hK _ _ h

end
end Go.Proofs.Ytamnffcafbfojaa
