/-
  An element of a row of structs turned, where it lies; the row that is left behind a deletion.
-/
import Derived.Test.YtfoifdhcelcgiaaGreatDoorJj
import Derived.Test.YtfoifdhcelcgiaaGreatDoorPastO
namespace Go.Proofs.YtfoifdhcelcgiaaGreatDoor
open Go Go.RowKit

def midA (cur : Array Value) (k : Nat) (vs : List Value) : Array Value := (cur.toList.take k ++ vs ++ cur.toList.drop (k + vs.length)).toArray
theorem midA_size {cur : Array Value} {k : Nat} {vs : List Value} (h : k + vs.length ≤ cur.size) : (midA cur k vs).size = cur.size := by
  simp only [midA, List.size_toArray, List.length_append, List.length_take, List.length_drop, Array.length_toList]
  omega
theorem midA_cons {cur : Array Value} {k : Nat} {v : Value} {r : List Value} (h : k + (r.length + 1) ≤ cur.size) : midA (cur.setIfInBounds k v) (k + 1) r = midA cur k (v :: r) := by
  unfold midA
  congr 1
  have hk : k < cur.toList.length := by simp; omega
  have h1 : (cur.setIfInBounds k v).toList = cur.toList.set k v := by simp
  rw [h1, List.set_eq_take_append_cons_drop, if_pos hk]
  have hl : (cur.toList.take k).length = k := by rw [List.length_take]; omega
  have e1 : (cur.toList.take k ++ v :: cur.toList.drop (k + 1)).take (k + 1) = cur.toList.take k ++ [v] := by
    rw [List.take_append, hl, List.take_of_length_le (by omega), show k + 1 - k = 1 by omega]
    rfl
  have e2 : (cur.toList.take k ++ v :: cur.toList.drop (k + 1)).drop (k + 1 + r.length) = cur.toList.drop (k + (v :: r).length) := by
    rw [List.drop_append, hl, List.drop_of_length_le (by omega), show k + 1 + r.length - k = r.length + 1 by omega, List.drop_succ_cons, List.drop_drop, List.nil_append]
    congr 1
    simp
    omega
  rw [e1, e2]
  simp
section
variable {P : Program}
theorem run_storeCells_mid (g o : Nat) (t : TypeId) : ∀ (vs : List Value) (i : Nat) (cur : Array Value) (w : World), w.heap[g]? = some (.cells cur t (0, 0)) → o + i + vs.length ≤ cur.size → (∀ v ∈ vs, v.oneCell' = true) →
    (storeCells ⟨g, o, none⟩ vs i).run P w = .ok () (w.setRow g (midA cur (o + i) vs))
  | [], i, cur, w, hg, hl, _ => by
    have h1 : midA cur (o + i) [] = cur := by simp [midA]
    rw [h1]
    have h2 : w.setRow g cur = w := by
      have hlt : g < w.heap.size := (Array.getElem?_eq_some_iff.1 hg).1
      have hv : w.heap[g] = .cells cur t (0, 0) := (Array.getElem?_eq_some_iff.1 hg).2
      unfold World.setRow
      cases w with
      | mk heap tape drawn os output =>
        congr 1
        apply Array.ext
        · simp
        · intro j h1 h2
          rw [Array.getElem_modify]
          split
          · rename_i e; subst e
            simp only at hv
            rw [hv]
          · rfl
    rw [h2]
    rfl
  | v :: r, i, cur, w, hg, hl, h1 => by
    have hadd : (⟨g, o, none⟩ : Addr).add i = ⟨g, o + i, none⟩ := by unfold Addr.add; split <;> simp_all
    simp only [List.length_cons] at hl
    have hlt : o + i < cur.size := by omega
    have hc : w.cell? ⟨g, o + i, none⟩ = some cur[o + i] := by rw [cell_of_row _ _ _ _ _ _ hg]; exact Array.getElem?_eq_getElem hlt
    have hf : w.frozen? ⟨g, o + i, none⟩ = false := by simp [World.frozen?, hg]
    have hst : (store ((⟨g, o, none⟩ : Addr).add i) v).run P w = .ok () (w.setCell ⟨g, o + i, none⟩ v) := by
      rw [hadd, run_store P w _ v _ (h1 v (by simp))]
      simp [hc, hf]
    have hrow := setCell_eq_setRow w g (o + i) cur t (0, 0) v hg
    have hg2 : (w.setCell ⟨g, o + i, none⟩ v).heap[g]? = some (.cells (cur.setIfInBounds (o + i) v) t (0, 0)) := by rw [hrow, setRow_heap w g _ _ _ (0, 0) hg]
    have ih := run_storeCells_mid g o t r (i + 1) (cur.setIfInBounds (o + i) v) (w.setCell ⟨g, o + i, none⟩ v) hg2 (by simp; omega) (fun u hu => h1 u (List.mem_cons_of_mem _ hu))
    rw [show o + (i + 1) = o + i + 1 by omega, midA_cons (by omega)] at ih
    simp only [storeCells, Sem.run_bind, hst, Result.andThen_ok, ih]
    rw [hrow]
    congr 1
    unfold World.setRow
    cases w with
    | mk heap tape drawn os output =>
      congr 1
      apply Array.ext
      · simp
      · intro j h1 h2
        simp only [Array.getElem_modify]
        split
        · cases heap[j]'(by simpa using h2) <;> rfl
        · rfl
theorem setRow_grown {w : World} {g : Nat} {cur cs : Array Value} {t : TypeId} (hb : w.heap[g]? = some (.cells cur t (0, 0))) : (w.setRow g cs).heap[g]? = some (.cells cs t (0, 0)) ∧ w.grownBy (w.setRow g cs) (some g) ∧ (w.setRow g cs).heap.size = w.heap.size :=
  ⟨setRow_heap w g cur cs t (0, 0) hb, ⟨rfl, rfl, rfl, by simp, fun k _ hk => setRow_other w g k _ (fun e => hk (by rw [e]))⟩, by simp⟩
/-- a whole value into an element -/
theorem wpList_storeAt {w : World} {ops : Array Oper} {rest : List Oper} {o : Oper} {a : Act} {Q : Exit → Act → World → Prop} (hg : o.guard = none) (t : TypeId) (x v : Operand) (hop : o.op = .store t x v) {b off : Nat} {cur : Array Value} {t' : TypeId} (hb : w.heap[b]? = some (.cells cur t' (0, 0)))
    (hx : a.eval x = .pointer (some ⟨b, off, none⟩)) (cs : List Value) (hv : a.eval v = .agg cs.toArray) (hi : (P.info? t).map (·.size) = some cs.length) (hs : off + cs.length ≤ cur.size) (h1 : ∀ u ∈ cs, u.oneCell' = true)
    (h : ∀ w', w'.heap[b]? = some (.cells (midA cur off cs) t' (0, 0)) → w.grownBy w' (some b) → w'.heap.size = w.heap.size → wpList P ops Q rest (a.put o.dst undef) w') : wpList P ops Q (o :: rest) a w := by
  refine wpList_plain hg fun K' hK' => ?_
  unfold Oper.wp execOp
  have hst := run_storeCells_mid (P := P) b off t' cs 0 cur w hb (by omega) h1
  rw [Nat.add_zero] at hst
  have hsv : (storeVar t ⟨b, off, none⟩ (.agg cs.toArray)).run P w = .ok () (w.setRow b (midA cur off cs)) := by
    unfold storeVar
    simp only [Sem.run_bind, sizeOf_of hi, Result.andThen, Value.cells, ne_eq, List.size_toArray, not_true_eq_false, if_false, hst]
  obtain ⟨k1, k2, k3⟩ := setRow_grown (cs := midA cur off cs) hb
  simp only [hop, hx, hv, Instr.storeAt, Instr.sureAddr, Sem.run_bind, Sem.run_pure, Result.andThen_ok, hsv]
  exact hK' _ _ (h _ k1 k2 k3)
/-- clear of what is left of a row -/
theorem run_clear_mid (w : World) (t e : TypeId) (Z : Value) (n size : Nat) (ht : P.underlying t = some (.slice e)) (hz : (zeroValue e).run P w = .ok Z w) (hZ : Z.cells.size = size) (h1 : ∀ u ∈ Z.cells.toList, u.oneCell' = true) (hs : 0 < size) (b off c : Nat) (hn : 0 < n)
    (cur : Array Value) (t' : TypeId) (hb : w.heap[b]? = some (.cells cur t' (0, 0))) (hl : off + n * size ≤ cur.size) :
    ∃ vs : List Value, vs.length = n * size ∧ ∀ ty, (Builtin.clear_ #[t] ty #[.slice (some ⟨b, off, none⟩) n c]).run P w = .ok (.tuple #[]) (w.setRow b (midA cur off vs)) := by
  have hlen : (Builtin.zeroCells Z.cells n).toList.length = n * size := by
    simp [Builtin.zeroCells, hZ]
    done
  have h1' : ∀ v ∈ (Builtin.zeroCells Z.cells n).toList, v.oneCell' = true := fun v hv => by
    simp only [Builtin.zeroCells, Array.toList_map, List.mem_map] at hv
    obtain ⟨i, _, rfl⟩ := hv
    have hlt : i % Z.cells.size < Z.cells.size := Nat.mod_lt _ (by rw [hZ]; exact hs)
    rw [getElem!_pos Z.cells _ hlt]
    exact h1 _ (Array.getElem_mem_toList hlt)
  refine ⟨(Builtin.zeroCells Z.cells n).toList, hlen, fun ty => ?_⟩
  have hst := run_storeCells_mid (P := P) b off t' (Builtin.zeroCells Z.cells n).toList 0 cur w hb (by rw [hlen]; omega) h1'
  rw [Nat.add_zero] at hst
  obtain ⟨m, rfl⟩ : ∃ m, n = m + 1 := ⟨n - 1, by omega⟩
  simp [Builtin.clear_, run_underlying ht, hz, hst]
end
theorem ocs_len {L : List E3} (h : ∀ e ∈ L, e.cs.length = 38) : (ocs L).length = L.length * 38 := by
  induction L with
  | nil => rfl
  | cons e L ih =>
    have h1 := h e (List.mem_cons_self ..)
    have h2 := ih fun x hx => h x (List.mem_cons_of_mem _ hx)
    simp only [ocs, List.flatMap_cons, List.length_append, List.length_cons] at h2 ⊢
    omega
theorem ocs_take {L : List E3} (h : ∀ e ∈ L, e.cs.length = 38) (k : Nat) : (ocs L).take (k * 38) = ocs (L.take k) := by
  induction L generalizing k with
  | nil => simp [ocs]
  | cons e L ih =>
    cases k with
    | zero => simp [ocs]
    | succ k =>
      have h1 := h e (List.mem_cons_self ..)
      have h2 := ih (fun x hx => h x (List.mem_cons_of_mem _ hx)) k
      simp only [ocs, List.flatMap_cons, List.take_succ_cons] at h2 ⊢
      rw [List.take_append, h1, List.take_of_length_le (by omega), show (k + 1) * 38 - 38 = k * 38 by omega, h2]
theorem ocs_append (L R : List E3) : ocs (L ++ R) = ocs L ++ ocs R := by simp [ocs]
/-- the rows of a slice, where they lie -/
def DelSt (w : World) (g cap : Nat) (L : List E3) : Prop := (∀ e ∈ L, e.cs.length = 38) ∧ L.length ≤ cap ∧ cap ≤ maxLen ∧ ∃ cur, w.heap[g]? = some (.cells cur 46 (0, 0)) ∧ cur.size = cap * 38 ∧ cur.toList.take (L.length * 38) = ocs L
section
variable {w w' : World} {g cap base : Nat} {L : List E3}
theorem DelSt.of_owns {p : Option Addr} (h : Owns w base 46 38 (.slice p L.length cap) L.length (ocs L)) (h38 : ∀ e ∈ L, e.cs.length = 38) : (p = none ∧ L.length = 0 ∧ cap = 0) ∨ ∃ g, p = some ⟨g, 0, none⟩ ∧ base ≤ g ∧ DelSt w g cap L := by
  rcases h.2 with ⟨h0, h1⟩ | ⟨g, c, cur, fz, hv, hg, hc, hf, h5, h6, h7, h8⟩
  · simp only [Value.slice.injEq] at h0
    exact .inl ⟨h0.1, h1, h0.2.2⟩
  · simp only [Value.slice.injEq, true_and] at hv
    obtain ⟨rfl, rfl⟩ := hv
    rw [hf.2 (by omega)] at hc
    exact .inr ⟨g, rfl, hg, h38, h5, h6, cur, hc, h7, h8⟩
theorem DelSt.lt (h : DelSt w g cap L) : g < w.heap.size := by
  obtain ⟨_, _, _, cur, h1, _⟩ := h
  exact (Array.getElem?_eq_some_iff.1 h1).1
theorem DelSt.of_block (h : DelSt w g cap L) (hb : w'.heap[g]? = w.heap[g]?) : DelSt w' g cap L := by
  obtain ⟨h1, h2, h3, cur, h4, h5⟩ := h
  exact ⟨h1, h2, h3, cur, hb.trans h4, h5⟩
theorem DelSt.under (h : DelSt w g cap L) (hb : Below w.heap.size w w') : DelSt w' g cap L := h.of_block (hb.block _ h.lt)
theorem DelSt.take (h : DelSt w g cap L) (k : Nat) : DelSt w g cap (L.take k) := by
  obtain ⟨h1, h2, h3, cur, h4, h5, h6⟩ := h
  refine ⟨fun e he => h1 e (List.mem_of_mem_take he), by rw [List.length_take]; omega, h3, cur, h4, h5, ?_⟩
  rw [← ocs_take h1, ← h6, List.take_take]
  rcases Nat.le_total k L.length with hk | hk
  · rw [List.length_take, Nat.min_eq_left hk, Nat.min_eq_left (by omega)]
  · rw [List.length_take, Nat.min_eq_right hk, Nat.min_eq_right (by omega)]
theorem DelSt.owns (h : DelSt w g cap L) (hg : base ≤ g) : Owns w base 46 38 (.slice (some ⟨g, 0, none⟩) L.length cap) L.length (ocs L) := by
  obtain ⟨h1, h2, h3, cur, h4, h5, h6⟩ := h
  exact ⟨ocs_len h1, .inr ⟨g, cap, cur, (0, 0), rfl, hg, h4, ⟨.inl (Nat.zero_le _), fun _ => rfl⟩, h2, h3, h5, h6⟩⟩
theorem DelSt.at_ (h : DelSt w g cap L) {n : Nat} {e : E3} (he : L[n]? = some e) : cellsAt w g (n * 38) e.cs := fun j u hj => by
  obtain ⟨h1, h2, h3, cur, h4, h5, h6⟩ := h
  have hlt := (List.getElem?_eq_some_iff.1 he).1
  have hl := h1 e (List.mem_of_getElem? he)
  have hj' := (List.getElem?_eq_some_iff.1 hj).1
  have h7 := ocs_at h1 he hj
  rw [← h6, List.getElem?_take_of_lt (by omega)] at h7
  show w.cell? ⟨g, n * 38 + j, none⟩ = some u
  rw [cell_of_row _ _ _ _ _ _ h4, ← Array.getElem?_toList, show n * 38 + j = 38 * n + j by omega]
  exact h7
theorem DelSt.set (h : DelSt w g cap L) {i : Nat} (hi : i < L.length) {e : E3} (he : e.cs.length = 38) {cur : Array Value} (hc : w.heap[g]? = some (.cells cur 46 (0, 0))) (hw : w'.heap[g]? = some (.cells (midA cur (i * 38) e.cs) 46 (0, 0))) : DelSt w' g cap (L.set i e) := by
  obtain ⟨h1, h2, h3, cur', h4, h5, h6⟩ := h
  obtain rfl : cur' = cur := by
    have := h4.symm.trans hc
    simp only [Option.some.injEq, Obj.cells.injEq, and_true] at this
    exact this
  refine ⟨fun x hx => (List.mem_or_eq_of_mem_set hx).elim (h1 x) (fun e' => by rw [e']; exact he), by rw [List.length_set]; exact h2, h3, _, hw, by rw [midA_size (by omega)]; exact h5, ?_⟩
  have hL : L = L.take i ++ L[i] :: L.drop (i + 1) := by
    have h := List.take_append_drop i L
    rw [List.drop_eq_getElem_cons hi] at h
    exact h.symm
  have ht : (L.take i).length = i := by rw [List.length_take]; omega
  have hd : (L.drop (i + 1)).length = L.length - (i + 1) := List.length_drop
  have h38t := ocs_len (fun x hx => h1 x (List.mem_of_mem_take hx) : ∀ x ∈ L.take i, x.cs.length = 38)
  rw [ht] at h38t
  have hli := h1 L[i] (List.getElem_mem hi)
  have hdl := ocs_len (fun x hx => h1 x (List.mem_of_mem_drop hx) : ∀ x ∈ L.drop (i + 1), x.cs.length = 38)
  rw [hd] at hdl
  obtain ⟨R, hR⟩ : ∃ R, R = cur'.toList.drop (L.length * 38) := ⟨_, rfl⟩
  have e1 : ocs L = ocs (L.take i) ++ (L[i].cs ++ ocs (L.drop (i + 1))) := by
    have h := congrArg ocs hL
    rw [ocs_append] at h
    exact h
  have h6' : cur'.toList = ocs (L.take i) ++ (L[i].cs ++ (ocs (L.drop (i + 1)) ++ R)) := by
    have h := List.take_append_drop (L.length * 38) cur'.toList
    rw [h6, ← hR, e1, List.append_assoc, List.append_assoc] at h
    exact h.symm
  have e2 : L.set i e = L.take i ++ (e :: L.drop (i + 1)) := by rw [List.set_eq_take_append_cons_drop, if_pos hi]
  have e3 : (midA cur' (i * 38) e.cs).toList = (ocs (L.take i) ++ (e.cs ++ ocs (L.drop (i + 1)))) ++ R := by
    unfold midA
    simp only [h6', he]
    have f1 : (ocs (L.take i) ++ (L[i].cs ++ (ocs (L.drop (i + 1)) ++ R))).take (i * 38) = ocs (L.take i) := by rw [← h38t, List.take_left]
    have f2 : (ocs (L.take i) ++ (L[i].cs ++ (ocs (L.drop (i + 1)) ++ R))).drop (i * 38 + 38) = ocs (L.drop (i + 1)) ++ R := by
      rw [← List.append_assoc, show i * 38 + 38 = (ocs (L.take i) ++ L[i].cs).length by rw [List.length_append, h38t, hli], List.drop_left]
    rw [f1, f2]
    simp only [List.append_assoc]
  rw [e3, List.length_set, e2, ocs_append]
  have e4 : (ocs (L.take i) ++ (e.cs ++ ocs (L.drop (i + 1)))).length = L.length * 38 := by
    rw [List.length_append, List.length_append, h38t, he, hdl]
    omega
  rw [← e4, List.take_left]
  rfl
theorem DelSt.first (h : DelSt w g cap L) {i : Nat} {vs : List Value} (hi : i ≤ L.length) {cur : Array Value} (hc : w.heap[g]? = some (.cells cur 46 (0, 0))) (hl : i * 38 + vs.length ≤ cur.size) (hw : w'.heap[g]? = some (.cells (midA cur (i * 38) vs) 46 (0, 0))) : DelSt w' g cap (L.take i) := by
  obtain ⟨h1, h2, h3, cur', h4, h5, h6⟩ := h
  obtain rfl : cur' = cur := by
    have := h4.symm.trans hc
    simp only [Option.some.injEq, Obj.cells.injEq, and_true] at this
    exact this
  have ht : (L.take i).length = i := by rw [List.length_take]; omega
  refine ⟨fun x hx => h1 x (List.mem_of_mem_take hx), by omega, h3, _, hw, by rw [midA_size hl]; exact h5, ?_⟩
  rw [ht, ← ocs_take h1, ← h6, List.take_take, Nat.min_eq_left (by omega)]
  unfold midA
  have hk : (cur'.toList.take (i * 38)).length = i * 38 := by rw [List.length_take, Array.length_toList]; omega
  simp only [List.append_assoc]
  generalize vs ++ _ = R
  have h := List.take_left (l₁ := cur'.toList.take (i * 38)) (l₂ := R)
  rw [hk] at h
  exact h
end
section
variable {P : Program} {w : World} {ops : Array Oper} {rest : List Oper} {o : Oper} {a : Act} {Q : Exit → Act → World → Prop}
theorem wpList_clear (hg : o.guard = none) (t : TypeId) (x : Operand) (hop : o.op = .call { callee := .builtin .clear, args := #[x], argTypes := #[t] }) (v : Value) (hx : a.eval x = v) (w' : World) (hrun : ∀ ty, (Builtin.clear_ #[t] ty #[v]).run P w = .ok (.tuple #[]) w')
    (h : wpList P ops Q rest (a.put o.dst (.tuple #[])) w') : wpList P ops Q (o :: rest) a w :=
  wpList_plain hg fun _ hK => by
    unfold Oper.wp execOp
    simp only [hop, resolve, invoke, builtin, Sem.run_bind, Sem.run_pure, Result.andThen_ok, List.map_toArray, List.map_cons, List.map_nil, hx, hrun]
    exact hK _ _ h
/-- a[:k] -/
theorem wpList_hiR (hgd : o.guard = none) (t : TypeId) (x y : Operand) (hop : o.op = .slice t x none (some y) none) (e : TypeId) (size : Nat) (ht : P.underlying t = some (.slice e)) (hi : (P.info? e).map (·.size) = some size) (p : Option Addr) (m c k : Nat) (kk : IntKind) (hx : a.eval x = .slice p m c) (hy : a.eval y = .int kk (k : Int)) (hk : k ≤ c) (hp : ∀ a, p = some a → a.spot = none)
    (h : wpList P ops Q rest (a.put o.dst (.slice p k c)) w) : wpList P ops Q (o :: rest) a w :=
  wpList_plain hgd fun _ hK => by
    have he : P.elem t = e := by simp [Program.elem, ht]
    have ht' : P.underlying t = some (.slice (P.elem t)) := by rw [he]; exact ht
    have hA : (if c = 0 then p else p.map (·.add (0 * size))) = p := by
      split
      · rfl
      · cases p with
        | none => rfl
        | some q => simp [Addr.add]
    have hr : (execOp a.eval o).run P w = .ok (.value (.slice p k c)) w := by
      unfold execOp
      simp only [hop, hx, hy, Option.map_some, Option.map_none, Sem.run_bind, Sem.run_pure, run_sliceAt_slice w t _ _ _ _ ht', run_slice_h w t p m c ht' kk k (by omega) (by omega), he, run_sizeOf hi, Result.andThen_ok, sliced, Int.toNat_natCast, hA, Nat.sub_zero]
    unfold Oper.wp
    rw [hr]
    exact hK _ _ h
end
/-- what stays of a row -/
structure Kept (q : E3 → Bool) (L Lc : List E3) (i j : Nat) : Prop where
  len : Lc.length = L.length
  lt : i < j
  le : j ≤ L.length
  low : Lc.take i = (L.take j).filter fun e => !q e
  high : Lc.drop j = L.drop j
theorem take_succ_get {L : List E3} {j : Nat} (hj : j < L.length) : L.take (j + 1) = L.take j ++ [L[j]] := by rw [List.take_succ_eq_append_getElem hj]
theorem Kept.at_ {q : E3 → Bool} {L Lc : List E3} {i j : Nat} (h : Kept q L Lc i j) (hj : j < L.length) : Lc[j]? = some L[j] := by
  have h1 := congrArg (fun l => l[0]?) h.high
  simp only [List.getElem?_drop, Nat.add_zero] at h1
  rw [h1, List.getElem?_eq_getElem hj]
theorem Kept.skip {q : E3 → Bool} {L Lc : List E3} {i j : Nat} (h : Kept q L Lc i j) (hj : j < L.length) (hq : q L[j] = true) : Kept q L Lc i (j + 1) := by
  refine ⟨h.len, by have := h.lt; omega, hj, ?_, ?_⟩
  · rw [h.low, take_succ_get hj, List.filter_append]
    simp [hq]
  · have h1 := congrArg (List.drop 1) h.high
    simpa [List.drop_drop, Nat.add_comm] using h1
theorem Kept.keep {q : E3 → Bool} {L Lc : List E3} {i j : Nat} (h : Kept q L Lc i j) (hj : j < L.length) (hq : q L[j] = false) : Kept q L (Lc.set i L[j]) (i + 1) (j + 1) := by
  have hlt := h.lt
  have hlen := h.len
  refine ⟨by rw [List.length_set]; exact h.len, by omega, hj, ?_, ?_⟩
  · rw [take_succ_get hj, List.filter_append, ← h.low, List.take_succ_eq_append_getElem (by rw [List.length_set]; omega), List.getElem_set_self, List.take_set_of_le (by omega)]
    simp [hq]
  · have h1 := congrArg (List.drop 1) h.high
    rw [List.drop_set_of_lt (by omega)]
    simpa [List.drop_drop, Nat.add_comm] using h1
theorem Kept.done {q : E3 → Bool} {L Lc : List E3} {i : Nat} (h : Kept q L Lc i L.length) : Lc.take i = L.filter (fun e => !q e) ∧ i ≤ Lc.length := by
  have h1 := h.low
  rw [List.take_length] at h1
  have := h.lt
  have := h.len
  exact ⟨h1, by omega⟩
end Go.Proofs.YtfoifdhcelcgiaaGreatDoor
