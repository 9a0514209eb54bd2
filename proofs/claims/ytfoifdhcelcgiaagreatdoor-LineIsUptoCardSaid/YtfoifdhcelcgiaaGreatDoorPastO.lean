/-
  A ROW THAT IS READ FROM ITS HEAD ON: a slice of the call's own whose beginning has been cut off, and append onto it.
-/
import Derived.Test.YtfoifdhcelcgiaaGreatDoorJj
namespace Go.Proofs.YtfoifdhcelcgiaaGreatDoor
open Go Go.RowKit

/-- the slice value v, of n elements of 'size' cells each, holds the cells xs, in a row of the call's own of which a head may have been cut off -/
def OwnsO (w : World) (base : Nat) (e : TypeId) (size : Nat) (v : Value) (n : Nat) (xs : List Value) : Prop :=
  xs.length = n * size ∧ ((v = .slice none 0 0 ∧ n = 0) ∨ ∃ g off cap cur, v = .slice (some ⟨g, off, none⟩) n cap ∧ base ≤ g ∧ w.heap[g]? = some (.cells cur e (0, 0)) ∧ n ≤ cap ∧ cap ≤ maxLen ∧ off + cap * size ≤ cur.size ∧ (cur.toList.drop off).take (n * size) = xs)

section
variable {P : Program} {w w' : World} {base : Nat} {e : TypeId} {size n : Nat} {v : Value} {xs : List Value}
theorem OwnsO.of (h : Owns w base e size v n xs) (hs : 1 < size) : OwnsO w base e size v n xs := by
  refine ⟨h.1, ?_⟩
  rcases h.2 with h0 | ⟨g, cap, cur, fz, h1, h2, h3, h4, h5, h6, h7, h8⟩
  · exact .inl h0
  · rw [h4.2 hs] at h3
    exact .inr ⟨g, 0, cap, cur, h1, h2, h3, h5, h6, by rw [h7]; omega, by simpa using h8⟩
theorem OwnsO.form (h : OwnsO w base e size v n xs) : ∃ p cap, v = .slice p n cap := by
  rcases h.2 with ⟨rfl, rfl⟩ | ⟨g, off, cap, cur, rfl, _⟩
  · exact ⟨_, _, rfl⟩
  · exact ⟨_, _, rfl⟩
theorem OwnsO.lt (h : OwnsO w base e size v n xs) {g off : Nat} {cap : Nat} (hg : v = .slice (some ⟨g, off, none⟩) n cap) : base ≤ g ∧ g < w.heap.size := by
  rcases h.2 with ⟨rfl, _⟩ | ⟨g', off', cap', cur, rfl, hb, hh, _⟩
  · cases hg
  · simp only [Value.slice.injEq, Option.some.injEq, Addr.mk.injEq, and_true, true_and] at hg
    obtain ⟨⟨rfl, rfl⟩, rfl⟩ := hg
    exact ⟨hb, (Array.getElem?_eq_some_iff.1 hh).1⟩
/-- the block it lies in -/
def rowOf (v : Value) : Option Nat := match v with | .slice (some a) _ _ => some a.block | _ => none
theorem OwnsO.row_lt (h : OwnsO w base e size v n xs) {g : Nat} (hg : rowOf v = some g) : base ≤ g ∧ g < w.heap.size := by
  rcases h.2 with ⟨rfl, _⟩ | ⟨g', off', cap', cur, rfl, hb, hh, _⟩
  · cases hg
  · simp only [rowOf, Option.some.injEq] at hg
    subst hg
    exact ⟨hb, (Array.getElem?_eq_some_iff.1 hh).1⟩
theorem OwnsO.keep (h : OwnsO w base e size v n xs) (hk : ∀ g, rowOf v = some g → w'.heap[g]? = w.heap[g]?) : OwnsO w' base e size v n xs := by
  refine ⟨h.1, ?_⟩
  rcases h.2 with h0 | ⟨g, off, cap, cur, hv, hg, hh, h1⟩
  · exact .inl h0
  · exact .inr ⟨g, off, cap, cur, hv, hg, (hk g (by rw [hv]; rfl)).trans hh, h1⟩
theorem OwnsO.under (h : OwnsO w base e size v n xs) (hb : Below w.heap.size w w') : OwnsO w' base e size v n xs := h.keep (fun g hg => hb.block g (h.row_lt hg).2)
theorem OwnsO.src {p : Option Addr} {cap : Nat} (h : OwnsO w base e size (.slice p n cap) n xs) : Src w p xs := ⟨fun j u hj => by
  rcases h.2 with ⟨_, h0⟩ | ⟨g, off, cap0, cur, hv, hg, hh, h1, h2, h3, h4⟩
  · have := h.1
    rw [h0, Nat.zero_mul] at this
    rw [List.eq_nil_of_length_eq_zero this] at hj
    simp at hj
  · simp at hv
    obtain ⟨rfl, rfl⟩ := hv
    refine ⟨g, off, rfl, ?_⟩
    rw [cell_of_row _ _ _ _ _ _ hh]
    rw [← h4] at hj
    rw [List.getElem?_take] at hj
    split at hj
    · rw [List.getElem?_drop] at hj
      simpa using hj
    · cases hj⟩
theorem OwnsO.bounds {p : Option Addr} {cap : Nat} (h : OwnsO w base e size (.slice p n cap) n xs) : n ≤ cap ∧ cap ≤ maxLen := by
  rcases h.2 with ⟨hv, h0⟩ | ⟨g, off, cap0, cur, hv, hg, hh, h1, h2, h3, h4⟩
  · simp at hv
    obtain ⟨_, _, rfl⟩ := hv
    exact ⟨by omega, by unfold maxLen; omega⟩
  · simp at hv
    obtain ⟨_, rfl⟩ := hv
    exact ⟨h1, h2⟩
/-- its head cut off -/
theorem OwnsO.tail {p : Option Addr} {cap : Nat} (h : OwnsO w base e size (.slice p (n + 1) cap) (n + 1) xs) : OwnsO w base e size (.slice (loP p cap 1 size) n (cap - 1)) n (xs.drop size) ∧ rowOf (.slice (loP p cap 1 size) n (cap - 1)) = rowOf (.slice p (n + 1) cap) := by
  rcases h.2 with ⟨hv, h0⟩ | ⟨g, off, cap0, cur, hv, hg, hh, h1, h2, h3, h4⟩
  · omega
  · simp only [Value.slice.injEq, true_and] at hv
    obtain ⟨rfl, rfl⟩ := hv
    have hl : (xs.drop size).length = n * size := by rw [List.length_drop, h.1, Nat.add_mul]; omega
    unfold loP
    split
    · rename_i hc
      have hn : n = 0 := by omega
      subst hn
      refine ⟨⟨hl, .inr ⟨g, off, cap - 1, cur, rfl, hg, hh, by omega, by omega, ?_, ?_⟩⟩, rfl⟩
      · rw [hc]; omega
      · rw [List.eq_nil_of_length_eq_zero (by omega : (xs.drop size).length = 0)]; simp
    · rename_i hc
      have hadd : ((some ⟨g, off, none⟩ : Option Addr).map (·.add (1 * size))) = some ⟨g, off + size, none⟩ := by
        simp only [Option.map_some, Nat.one_mul]
        congr 1
        unfold Addr.add
        split <;> simp_all
      rw [hadd]
      have : size ≤ cap * size := Nat.le_mul_of_pos_left _ (by omega)
      refine ⟨⟨hl, .inr ⟨g, off + size, cap - 1, cur, rfl, hg, hh, by omega, by omega, ?_, ?_⟩⟩, rfl⟩
      · rw [Nat.sub_mul, Nat.one_mul]
        omega
      · rw [← h4, List.drop_take, Nat.add_mul, Nat.one_mul, Nat.add_sub_cancel, List.drop_drop]

/-- append with any source: a list of cells that lies somewhere -/
theorem run_append_O (base : Nat) (t ty e : TypeId) (i : TypeInfo) (z : Value) (size bytes : Nat) (ht : P.underlying t = some (.slice e)) (hi : P.info? e = some i) (hz : i.zero = some z)
    (hsize : i.size = size) (hby : i.bytes = bytes) (hzs : z.cells.size = size) (hsz : 1 < size)
    (v : Value) (n : Nat) (xs : List Value) (hown : OwnsO w base e size v n xs)
    (A : Option Addr) (m c : Nat) (news : List Value) (hl : news.length = m * size) (hnews : SrcAt w A news) (hA : ∀ a, A = some a → news ≠ [] → a.spot = none) (h1 : ∀ u ∈ news, u.oneCell' = true)
    (h63 : n + m ≤ maxLen) (hbytes : (n + m) * bytes ≤ 140737488355328) (hbase : base ≤ w.heap.size) :
    ∃ v' w', (Builtin.append_ #[t, t] ty #[v, .slice A m c]).run P w = .ok v' w' ∧ OwnsO w' base e size v' (n + m) (xs ++ news) ∧ w.grownBy w' (rowOf v) := by
  by_cases hne : news = []
  · subst hne
    have hm : m = 0 := by
      rcases Nat.eq_zero_or_pos m with h | h
      · exact h
      · have := Nat.mul_pos h (show 0 < size by omega); simp at hl; omega
    subst hm
    obtain ⟨p, cap, rfl⟩ := hown.form
    have hb := hown.bounds
    refine ⟨.slice p n cap, w, ?_, by simpa using hown, World.grownBy.refl w _⟩
    cases A with
    | none => cases p <;> simp [Builtin.append_, run_underlying ht, sizeOf, typeInfo, hi, Builtin.lenOf, Builtin.firstCells, hb.1, storeCells]
    | some q => exact run_append_zero t ty e i ht hi p n cap hb.1 q c w
  · cases A with
    | none =>
      cases news with
      | nil => exact absurd rfl hne
      | cons u news => obtain ⟨b, off, h, _⟩ := hnews 0 u rfl; cases h
    | some a =>
      obtain ⟨b, boff, spot⟩ := a
      have : spot = none := hA _ rfl hne
      subst this
      have hA' : ∀ a, (some ⟨b, boff, none⟩ : Option Addr) = some a → a.spot = none := fun a e => by cases e; rfl
      rcases hown.2 with ⟨rfl, rfl⟩ | ⟨g, off, cap, cur, rfl, hbg, hg, hnc, hcm, hcs, htake⟩
      · obtain ⟨v', w', r1, r2, r3, r4⟩ := run_append_src (P := P) base t ty e i z size bytes ht hi hz hsize hby hzs (by omega) (.slice none 0 0) 0 xs ⟨hown.1, .inl ⟨rfl, rfl⟩⟩ (some ⟨b, boff, none⟩) m c news hl hnews hA' h1 h63 hbytes hbase
        exact ⟨v', w', r1, OwnsO.of (Owns.of r2) hsz, r3⟩
      · have hsmall : n + m ≤ 9223372036854775807 := by simp only [maxLen] at h63; omega
        have hxl := hown.1
        have hlen : (xs ++ news).length = (n + m) * size := by rw [List.length_append, hxl, hl, Nat.add_mul]
        have hnews' : ∀ j u, news[j]? = some u → w.cell? ((⟨b, boff, none⟩ : Addr).add j) = some u := fun j u hj => by
          obtain ⟨b', off', e', hc⟩ := hnews j u hj
          simp at e'
          obtain ⟨rfl, rfl⟩ := e'
          have hadd : (⟨b, boff, none⟩ : Addr).add j = ⟨b, boff + j, none⟩ := by unfold Addr.add; split <;> simp_all
          rw [hadd]
          exact hc
        by_cases hroom : n + m ≤ cap
        · have hmul : (n + m) * size ≤ cap * size := Nat.mul_le_mul_right _ hroom
          rw [Nat.add_mul] at hmul
          have hfit : off + n * size + news.length ≤ cur.size := by rw [hl]; omega
          have hf := run_firstCells_some (P := P) w i.size m ⟨b, boff, none⟩ m c news (by rw [hl, hsize]) hnews'
          have hst := run_storeCells_atG P g (off + n * size) e (0, 0) news 0 cur w hg (.inl (Nat.zero_le _)) (by simpa using hfit) h1
          simp only [Nat.add_zero] at hst
          have hr : (Builtin.append_ #[t, t] ty #[.slice (some ⟨g, off, none⟩) n cap, .slice (some ⟨b, boff, none⟩) m c]).run P w =
              .ok (.slice (some ⟨g, off, none⟩) (n + m) cap) (w.setRow g (cur.toList.take (off + n * size) ++ news ++ cur.toList.drop (off + n * size + news.length)).toArray) := by
            have hadd : (⟨g, off, none⟩ : Addr).add (n * size) = ⟨g, off + n * size, none⟩ := by unfold Addr.add; split <;> simp_all
            subst hsize
            simp [Builtin.append_, run_underlying ht, sizeOf, typeInfo, hi, Builtin.lenOf, hroom, hf, hadd, hst]
          have hsz' : (cur.toList.take (off + n * size) ++ news ++ cur.toList.drop (off + n * size + news.length)).toArray.size = cur.size := by
            simp only [List.size_toArray, List.length_append, List.length_take, List.length_drop, Array.length_toList]
            omega
          refine ⟨_, _, hr, ⟨hlen, .inr ⟨g, off, cap, _, rfl, hbg, setRow_heap w g cur _ e _ hg, hroom, hcm, by rw [hsz']; exact hcs, ?_⟩⟩, ⟨rfl, rfl, rfl, by simp, fun k _ hk => setRow_other w g k _ (fun e => hk (by simp [rowOf, e]))⟩⟩
          have hd : ((cur.toList.take (off + n * size) ++ news ++ cur.toList.drop (off + n * size + news.length)).drop off) = (cur.toList.drop off).take (n * size) ++ news ++ cur.toList.drop (off + n * size + news.length) := by
            rw [List.append_assoc, List.drop_append_of_le_length (by simp only [List.length_take, Array.length_toList]; omega), List.drop_take, show off + n * size - off = n * size by omega, List.append_assoc]
          show ((cur.toList.take (off + n * size) ++ news ++ cur.toList.drop (off + n * size + news.length)).drop off).take ((n + m) * size) = xs ++ news
          rw [hd, htake, ← hlen]
          exact List.take_left
        · have holds : ∀ j u, xs[j]? = some u → w.cell? ((⟨g, off, none⟩ : Addr).add j) = some u := fun j u hj => by
            obtain ⟨b', off', e', hc⟩ := hown.src.at_ j u hj
            simp at e'
            obtain ⟨rfl, rfl⟩ := e'
            have hadd : (⟨g, off, none⟩ : Addr).add j = ⟨g, off + j, none⟩ := by unfold Addr.add; split <;> simp_all
            rw [hadd]
            exact hc
          subst hsize
          subst hby
          have hr := run_append_grow (P := P) w t ty e i z ht hi hz ⟨g, off, none⟩ n cap xs hxl holds ⟨b, boff, none⟩ m c news hl hnews' (by omega) (by omega) (growslice_fits (by omega) hbytes)
          have hge := grownCap_ge w (n + m) cap e
          have hcm2 : grownCap w (n + m) cap e ≤ maxLen := grownCap_le_maxLen w (n + m) cap e h63
          refine ⟨_, _, hr, OwnsO.of ⟨hlen, .inr ⟨w.heap.size, _, _, (0, 0), rfl, hbase, heap_alloc_new w.drew _, ⟨.inl (Nat.zero_le _), fun _ => rfl⟩, hge, hcm2, ?_, ?_⟩⟩ hsz, ⟨rfl, rfl, rfl, by simp, fun k hk _ => heap_alloc_old w.drew _ k hk⟩⟩
          · simp only [Array.size_append, List.size_toArray, size_zeroCells, hzs, hxl, hl, ← Nat.add_mul]
            congr 1
            omega
          · simp only [Array.toList_append, List.append_assoc]
            rw [← List.append_assoc, ← hlen]
            exact List.take_left

theorem wpList_append_O {ops : Array Oper} {rest : List Oper} {o : Oper} {a : Act} {Q : Exit → Act → World → Prop} (hgd : o.guard = none) (s x : Operand) (t : TypeId)
    (ho : o.op = .call { callee := .builtin .append, args := #[s, x], argTypes := #[t, t] })
    (base : Nat) (e : TypeId) (i : TypeInfo) (z : Value) (size bytes : Nat) (ht : P.underlying t = some (.slice e)) (hi : P.info? e = some i) (hz : i.zero = some z)
    (hsize : i.size = size) (hby : i.bytes = bytes) (hzs : z.cells.size = size) (hsz : 1 < size)
    (v : Value) (n : Nat) (xs : List Value) (hs : a.eval s = v) (hown : OwnsO w base e size v n xs)
    (A : Option Addr) (m c : Nat) (news : List Value) (hx : a.eval x = .slice A m c) (hl : news.length = m * size) (hsrc : Src w A news) (h1 : ∀ u ∈ news, u.oneCell' = true)
    (h63 : n + m ≤ maxLen) (hbytes : (n + m) * bytes ≤ 140737488355328) (hbase : base ≤ w.heap.size)
    (h : ∀ v' w', OwnsO w' base e size v' (n + m) (xs ++ news) → w.grownBy w' (rowOf v) → wpList P ops Q rest (a.put o.dst v') w') : wpList P ops Q (o :: rest) a w :=
  wpList_plain hgd fun _ hK => by
    obtain ⟨v', w', hrun, h2, h3⟩ := run_append_O (P := P) base t o.type e i z size bytes ht hi hz hsize hby hzs hsz v n xs hown A m c news hl hsrc.at_ (fun a e hne => hsrc.spot hne a e) h1 h63 hbytes hbase
    unfold Oper.wp execOp
    simp only [ho, resolve, invoke, builtin, Sem.run_bind, Sem.run_pure, Result.andThen_ok, List.map_toArray, List.map_cons, List.map_nil, hs, hx, hrun]
    exact hK _ _ (h v' w' h2 h3)
/-- a[1:] -/
theorem wpList_lo {ops : Array Oper} {rest : List Oper} {o : Oper} {a : Act} {Q : Exit → Act → World → Prop} (hgd : o.guard = none) (t : TypeId) (x y : Operand) (hop : o.op = .slice t x (some y) none none)
    (e : TypeId) (size : Nat) (ht : P.underlying t = some (.slice e)) (hi : (P.info? e).map (·.size) = some size) (p : Option Addr) (m c k : Nat) (kk : IntKind) (hx : a.eval x = .slice p m c) (hy : a.eval y = .int kk (k : Int)) (hk : k ≤ m)
    (h : wpList P ops Q rest (a.put o.dst (.slice (loP p c k size) (m - k) (c - k))) w) : wpList P ops Q (o :: rest) a w :=
  wpList_plain hgd fun _ hK => by
    have he : P.elem t = e := by simp [Program.elem, ht]
    have ht' : P.underlying t = some (.slice (P.elem t)) := by rw [he]; exact ht
    have hr : (execOp a.eval o).run P w = .ok (.value (.slice (loP p c k size) (m - k) (c - k))) w := by
      unfold execOp
      simp only [hop, hx, hy, Option.map_some, Option.map_none, Sem.run_bind, Sem.run_pure, run_sliceAt_slice w t _ _ _ _ ht', run_slice_l w t p m c ht' kk k (by omega) (by omega), he, run_sizeOf hi, Result.andThen_ok, sliced, Int.toNat_natCast]
      rfl
    unfold Oper.wp
    rw [hr]
    exact hK _ _ h
/-- a look whose run is known -/
theorem wpList_lookR {ops : Array Oper} {rest : List Oper} {o : Oper} {a : Act} {Q : Exit → Act → World → Prop} (hgd : o.guard = none) (t : TypeId) (m x : Operand) (c : Bool) (hop : o.op = .lookup t m x c) (mv key v : Value) (hm : a.eval m = mv) (hx : a.eval x = key)
    (hrun : (Instr.lookup t mv key c).run P w = .ok v w) (h : wpList P ops Q rest (a.put o.dst v) w) : wpList P ops Q (o :: rest) a w :=
  wpList_plain hgd fun _ hK => by
    unfold Oper.wp execOp
    simp only [hop, hm, hx, Sem.run_bind, Sem.run_pure, Result.andThen_ok, hrun]
    exact hK _ _ h
end
end Go.Proofs.YtfoifdhcelcgiaaGreatDoor
