/-
  A WHOLE STRUCT OR ARRAY, HOWEVER MANY CELLS: loaded from anywhere, laid in a block of its own, stored there. And what a struct that came in reads as, field by field.
-/
import Derived.Test.YtamnffcafbfojaaMap
import Derived.ProofKit
namespace Go.Proofs.Ytamnffcafbfojaa
open Go Go.RowKit

def isRowD (d : TypeDesc) : Bool := match d with | .struct _ | .array _ _ => true | _ => false

/-- the cells from this place on are cs -/
def cellsAt (w : World) (b off : Nat) (cs : List Value) : Prop := ∀ (j : Nat) (u : Value), cs[j]? = some u → w.cell? ⟨b, off + j, none⟩ = some u

theorem cellsAt.of_block {w w' : World} {b off : Nat} {cs : List Value} (h : cellsAt w b off cs) (hb : w'.heap[b]? = w.heap[b]?) : cellsAt w' b off cs :=
  fun j u hj => (World.cell?_of_block hb).trans (h j u hj)

theorem cellsAt_new (w : World) (cs : Array Value) (t : TypeId) : cellsAt (w.alloc (.cells cs t)) w.heap.size 0 cs.toList := fun j u hj => by
  rw [cell_of_row _ _ _ cs t (0, 0) ((MapKept.heap_alloc w _).1), Nat.zero_add]
  simpa using hj

section
variable {P : Program}

theorem isAgg_of {w : World} {t : TypeId} {d : TypeDesc} (hu : P.underlying t = some d) (hd : isRowD d = true) : (isAgg t).run P w = .ok true w := by
  unfold isAgg
  rw [Sem.run_bind, run_underlying hu w]
  cases d <;> simp_all [isRowD, Result.andThen]

theorem sizeOf_of {w : World} {t : TypeId} {n : Nat} (hi : (P.info? t).map (·.size) = some n) : (sizeOf t).run P w = .ok n w := by
  cases hq : P.info? t with
  | none => simp [hq] at hi
  | some i =>
    have hs : i.size = n := by simpa [hq] using hi
    simp [sizeOf, typeInfo, hq, hs]

/-- a type's zero, and how many cells it has: two numbers that the kernel reads -/
theorem zero_of {t : TypeId} {n : Nat} (h : (P.info? t).map (fun i => (i.zero.map (·.cells.size), i.size)) = some (some n, n)) :
    (P.info? t).map (·.size) = some n ∧ ∃ Z, (∀ w, (zeroValue t).run P w = .ok Z w) ∧ Z.cells.size = n := by
  cases hq : P.info? t with
  | none => simp [hq] at h
  | some i =>
    rw [hq] at h
    simp only [Option.map_some, Option.some.injEq, Prod.mk.injEq] at h
    refine ⟨by simp [h.2], ?_⟩
    cases hz : i.zero with
    | none => simp [hz] at h
    | some Z => exact ⟨Z, fun w => by simp [zeroValue, typeInfo, hq, hz], by simpa [hz] using h.1⟩

theorem run_loadAgg {w : World} {b off : Nat} {t : TypeId} {d : TypeDesc} {cs : List Value} (hu : P.underlying t = some d) (hd : isRowD d = true) (hi : (P.info? t).map (·.size) = some cs.length) (hc : cellsAt w b off cs) :
    (loadVar t ⟨b, off, none⟩).run P w = .ok (.agg cs.toArray) w := by
  have hl : (loadCells ⟨b, off, none⟩ cs.length).run P w = .ok cs.toArray w := run_loadCells_list (P := P) w ⟨b, off, none⟩ cs (fun j v hv => by
    have hadd : (⟨b, off, none⟩ : Addr).add j = ⟨b, off + j, none⟩ := by unfold Addr.add; split <;> simp_all
    rw [hadd]
    exact hc j v hv)
  unfold loadVar
  simp only [Sem.run_bind, isAgg_of hu hd, Result.andThen, if_true, sizeOf_of hi, hl, Sem.run_pure]

variable (w : World) {ops : Array Oper} {rest : List Oper} {o : Oper} {a : Act} {Q : Exit → Act → World → Prop}

theorem wpList_loadAgg (hg : o.guard = none) (t : TypeId) (x : Operand) (hop : o.op = .load t x) (d : TypeDesc) (hu : P.underlying t = some d) (hd : isRowD d = true)
    (b off : Nat) (hx : a.eval x = .pointer (some ⟨b, off, none⟩)) (cs : List Value) (hi : (P.info? t).map (·.size) = some cs.length) (hc : cellsAt w b off cs)
    (h : wpList P ops Q rest (a.put o.dst (.agg cs.toArray)) w) : wpList P ops Q (o :: rest) a w := by
  refine wpList_plain hg fun K' hK' => ?_
  unfold Oper.wp execOp
  simp only [hop, hx, Instr.loadAt, Instr.sureAddr, Sem.run_bind, Sem.run_pure, Result.andThen_ok, run_loadAgg hu hd hi hc]
  exact hK' _ _ h

/-- a new variable: its zero's cells stay under their name -/
theorem wpList_allocZ (hg : o.guard = none) (t : TypeId) (hop : o.op = .alloc t) (Z : Value) (hz : ∀ w, (zeroValue t).run P w = .ok Z w)
    (h : wpList P ops Q rest (a.put o.dst (.pointer (some ⟨w.heap.size, 0, none⟩))) (w.alloc (.cells Z.cells t))) : wpList P ops Q (o :: rest) a w := by
  refine wpList_plain hg fun K' hK' => ?_
  unfold Oper.wp execOp
  have hn : (newVar t Z).run P w = .ok ⟨w.heap.size, 0, none⟩ (w.alloc (.cells Z.cells t)) := rfl
  simp only [hop, Instr.alloc, Sem.run_bind, hz, Result.andThen_ok, hn, Sem.run_pure]
  exact hK' _ _ h

/-- .. and a whole value into it, at once -/
theorem wpList_storeNew (w0 : World) (hg : o.guard = none) (t : TypeId) (x v : Operand) (hop : o.op = .store t x v) (Z : Array Value) (hw : w = w0.alloc (.cells Z t))
    (hx : a.eval x = .pointer (some ⟨w0.heap.size, 0, none⟩)) (cs : Array Value) (hv : a.eval v = .agg cs) (hi : (P.info? t).map (·.size) = some cs.size) (hZ : Z.size = cs.size) (h1 : ∀ u ∈ cs.toList, u.oneCell' = true)
    (h : wpList P ops Q rest (a.put o.dst undef) (w0.alloc (.cells cs t))) : wpList P ops Q (o :: rest) a w := by
  subst hw
  refine wpList_plain hg fun K' hK' => ?_
  unfold Oper.wp execOp
  have hst : (storeCells ⟨w0.heap.size, 0, none⟩ cs.toList).run P (w0.alloc (.cells Z t)) = .ok () ((w0.alloc (.cells Z t)).setRow w0.heap.size cs) := by
    have := run_storeCells_from (P := P) w0.heap.size t cs.toList 0 Z (w0.alloc (.cells Z t)) (MapKept.heap_alloc w0 _).1 (by simp [hZ]) h1
    simpa using this
  have hrow : (w0.alloc (.cells Z t)).setRow w0.heap.size cs = w0.alloc (.cells cs t) := by
    unfold World.setRow World.alloc
    simp only
    congr 1
    apply Array.ext_getElem?
    intro i
    rw [Array.getElem?_modify]
    split
    · rename_i hi'
      subst hi'
      simp
    · rename_i hi'
      rw [Array.getElem?_push, Array.getElem?_push, if_neg (fun e => hi' e.symm), if_neg (fun e => hi' e.symm)]
  have hsv : (storeVar t ⟨w0.heap.size, 0, none⟩ (.agg cs)).run P (w0.alloc (.cells Z t)) = .ok () (w0.alloc (.cells cs t)) := by
    unfold storeVar
    simp only [Sem.run_bind, sizeOf_of hi, Result.andThen, Value.cells, ne_eq, not_true_eq_false, if_false, hst, hrow]
  simp only [hop, hx, hv, Instr.storeAt, Instr.sureAddr, Sem.run_bind, Sem.run_pure, Result.andThen_ok, hsv]
  exact hK' _ _ h

/-- a new variable that holds a whole value at once -/
theorem wpList_boxAgg (hg : o.guard = none) (t : TypeId) (x : Operand) (hop : o.op = .box t x) (cs : Array Value) (hx : a.eval x = .agg cs)
    (h : wpList P ops Q rest (a.put o.dst (.pointer (some ⟨w.heap.size, 0, none⟩))) (w.alloc (.cells cs t))) : wpList P ops Q (o :: rest) a w := by
  refine wpList_plain hg fun K' hK' => ?_
  have hn : (Instr.box t (.agg cs)).run P w = .ok (.pointer (some ⟨w.heap.size, 0, none⟩)) (w.alloc (.cells cs t)) := rfl
  unfold Oper.wp execOp
  simp only [hop, hx, Sem.run_bind, hn, Result.andThen_ok, Sem.run_pure]
  exact hK' _ _ h
end

/-! ### what came in -/
section
variable {H : Type} {enc : TypeId × Value → H} {P : Program} {W : World} {base : Nat} {sp : Nat → Bool} {held : Bool}

theorem mapM_all {α β : Type} {f : α → Option β} : ∀ {l : List α} {ys : List β}, l.mapM f = some ys → ∀ x ∈ l, ∃ y, f x = some y
  | [], _, _, x, hx => by simp at hx
  | a :: l, ys, h, x, hx => by
    rw [List.mapM_cons] at h
    cases ha : f a with
    | none => simp [ha] at h
    | some b =>
      cases hl : l.mapM f with
      | none => simp [ha, hl] at h
      | some bs =>
        rcases List.mem_cons.1 hx with rfl | hx
        · exact ⟨b, ha⟩
        · exact mapM_all hl x hx

/-- a struct: each field reads -/
theorem trod_struct {fuel : Nat} {t : TypeId} {fs : Array Field} {cs : List Value} {x : DataW H × List MemPlace} (ht : P.underlying t = some (.struct fs)) (h : DataW.trod enc P W base sp held (fuel + 1) t cs = some x) :
    cs.length = P.cellsOf t ∧ ∀ f ∈ fs.toList, ∃ y, DataW.trod enc P W base sp held fuel f.type ((cs.drop f.offset).take (P.cellsOf f.type)) = some y := by
  rw [DataW.trod.eq_def] at h
  simp only [ht] at h
  split at h
  · rename_i hl
    refine ⟨hl, fun f hf => ?_⟩
    simp only [Option.map_eq_some_iff] at h
    obtain ⟨ys, hy, _⟩ := h
    exact mapM_all hy f hf
  · cases h

/-- an array: each element reads -/
theorem trod_array {fuel : Nat} {t e : TypeId} {n : Nat} {cs : List Value} {x : DataW H × List MemPlace} (ht : P.underlying t = some (.array n e)) (h : DataW.trod enc P W base sp held (fuel + 1) t cs = some x) :
    cs.length = P.cellsOf t ∧ ∀ i, i < n → ∃ y, DataW.trod enc P W base sp held fuel e ((cs.drop (i * P.cellsOf e)).take (P.cellsOf e)) = some y := by
  rw [DataW.trod.eq_def] at h
  simp only [ht] at h
  split at h
  · rename_i hl
    refine ⟨hl, fun i hi => ?_⟩
    simp only [Option.map_eq_some_iff] at h
    obtain ⟨ys, hy, _⟩ := h
    exact mapM_all hy i (List.mem_range.2 hi)
  · cases h

theorem trod_fuel {fuel : Nat} {t : TypeId} {cs : List Value} {x : DataW H × List MemPlace} (h : DataW.trod enc P W base sp held fuel t cs = some x) : ∃ n, fuel = n + 1 := by
  cases fuel with
  | zero => simp [DataW.trod] at h
  | succ n => exact ⟨n, rfl⟩

theorem trod_int_cell {fuel : Nat} {t : TypeId} {k : IntKind} {cs : List Value} {x : DataW H × List MemPlace} (ht : P.underlying t = some (.int k)) (h : DataW.trod enc P W base sp held fuel t cs = some x) :
    ∃ n, cs = [.int k n] ∧ (Lit.int k n).wf = true := by
  obtain ⟨m, rfl⟩ := trod_fuel h
  rw [DataW.trod.eq_def] at h
  simp only [ht] at h
  split at h <;> simp_all

theorem trod_string_cell {fuel : Nat} {t : TypeId} {cs : List Value} {x : DataW H × List MemPlace} (ht : P.underlying t = some .string) (h : DataW.trod enc P W base sp held fuel t cs = some x) :
    ∃ s : ByteArray, cs = [.string s] ∧ s.size ≤ maxLen := by
  obtain ⟨m, rfl⟩ := trod_fuel h
  rw [DataW.trod.eq_def] at h
  simp only [ht] at h
  split at h <;> simp_all

/-- a type of ints, bools, strings, slices, and structs and arrays of such: each of its cells lies in a field -/
def flatB (P : Program) : Nat → TypeId → Bool
  | 0, _ => false
  | n + 1, t =>
    match P.underlying t with
    | some (.int _) | some .bool | some .string | some (.slice _) => true
    | some (.struct fs) => (List.range (P.cellsOf t)).all (fun j => fs.toList.any fun f => decide (f.offset ≤ j) && decide (j < f.offset + P.cellsOf f.type)) && fs.toList.all fun f => flatB P n f.type
    | some (.array k e) => decide (P.cellsOf t = k * P.cellsOf e) && flatB P n e
    | _ => false

theorem mem_piece {α : Type} {cs : List α} {off n j : Nat} (h1 : off ≤ j) (h2 : j < off + n) (hj : j < cs.length) : cs[j] ∈ (cs.drop off).take n := by
  rw [List.mem_iff_getElem?]
  refine ⟨j - off, ?_⟩
  rw [List.getElem?_take, if_pos (by omega), List.getElem?_drop, show off + (j - off) = j by omega, List.getElem?_eq_getElem hj]

theorem flat_cells : ∀ {n fuel : Nat} {t : TypeId} {cs : List Value} {x : DataW H × List MemPlace}, flatB P n t = true → DataW.trod enc P W base sp held fuel t cs = some x → ∀ u ∈ cs, u.oneCell' = true
  | 0, _, _, _, _, h, _ => by simp [flatB] at h
  | n + 1, fuel, t, cs, x, h, ht => by
    obtain ⟨m, rfl⟩ := trod_fuel ht
    unfold flatB at h
    cases hu : P.underlying t with
    | none => simp [hu] at h
    | some d =>
      rw [hu] at h
      cases d with
      | int k => obtain ⟨v, rfl, _⟩ := trod_int_cell hu ht; simp [Value.oneCell']
      | bool =>
        rw [DataW.trod.eq_def] at ht
        simp only [hu] at ht
        split at ht <;> simp_all [Value.oneCell']
      | string => obtain ⟨v, rfl, _⟩ := trod_string_cell hu ht; simp [Value.oneCell']
      | slice e =>
        rw [DataW.trod.eq_def] at ht
        simp only [hu] at ht
        split at ht <;> simp_all [Value.oneCell']
      | struct fs =>
        simp only [Bool.and_eq_true, List.all_eq_true, List.mem_range, List.any_eq_true, decide_eq_true_eq] at h
        obtain ⟨hl, hf⟩ := trod_struct hu ht
        intro u hm
        obtain ⟨j, hj, rfl⟩ := List.mem_iff_getElem.1 hm
        obtain ⟨f, hfm, h1, h2⟩ := h.1 j (by omega)
        obtain ⟨y, hy⟩ := hf f hfm
        exact flat_cells (h.2 f hfm) hy _ (mem_piece h1 h2 hj)
      | array k e =>
        simp only [Bool.and_eq_true, decide_eq_true_eq] at h
        obtain ⟨hl, hf⟩ := trod_array hu ht
        intro u hm
        obtain ⟨j, hj, rfl⟩ := List.mem_iff_getElem.1 hm
        have hc : 0 < P.cellsOf e := Nat.pos_of_ne_zero (fun e0 => by rw [e0] at h; omega)
        have hi : j / P.cellsOf e < k := Nat.div_lt_of_lt_mul (by rw [Nat.mul_comm]; omega)
        obtain ⟨y, hy⟩ := hf _ hi
        have := Nat.div_add_mod j (P.cellsOf e)
        have := Nat.mod_lt j hc
        exact flat_cells h.2 hy _ (mem_piece (by rw [Nat.mul_comm]; omega) (by rw [Nat.mul_comm]; omega) hj)
      | _ => simp at h

/-- the one cell that a field takes -/
theorem field_cell {cs : List Value} {off : Nat} {v : Value} (h : (cs.drop off).take 1 = [v]) : cs[off]? = some v := by
  have : (cs.drop off)[0]? = some v := by
    have h0 := congrArg (fun l : List Value => l[0]?) h
    simpa using h0
  simpa using this

/-- a slice that came in: its elements' cells -/
theorem trod_slice_cells {t e : TypeId} {fuel : Nat} {a0 : Option Addr} {len cap : Nat} {x : DataW H × List MemPlace} (ht : P.underlying t = some (.slice e)) (he : 0 < P.cellsOf e) (h : DataW.trod enc P W base sp held fuel t [.slice a0 len cap] = some x) :
    cap ≤ maxLen ∧ len ≤ cap ∧ ∃ n, ∀ i, i < len → ∃ b off, a0 = some ⟨b, off, none⟩ ∧ b < W.heap.size ∧ ∃ (cs : List Value) (y : DataW H × List MemPlace), cs.length = P.cellsOf e ∧ cellsAt W b (off + i * P.cellsOf e) cs ∧ DataW.trod enc P W base sp held n e cs = some y := by
  rcases DataW.trod_slice ht h with ⟨hcs, _⟩ | ⟨a, len', cap', elems, rest, n, _, hcs, _, hb, hl, hm, hel, hall, _, _⟩
  · simp at hcs
    obtain ⟨rfl, rfl, rfl⟩ := hcs
    exact ⟨by unfold maxLen; omega, Nat.le_refl _, 0, fun i hi => by omega⟩
  · simp at hcs
    obtain ⟨rfl, rfl, rfl⟩ := hcs
    have hall' : ∀ i, i < len → ∃ cs, W.cells? base (a.add (i * P.cellsOf e)) (P.cellsOf e) = some cs ∧ ∃ y, DataW.trod enc P W base sp held n e cs = some y := fun i hi => by
      have h1 := hall i hi
      rw [List.getElem?_eq_getElem (by omega)] at h1
      cases hc : W.cells? base (a.add (i * P.cellsOf e)) (P.cellsOf e) with
      | none => rw [hc] at h1; simp at h1
      | some cs => rw [hc] at h1; exact ⟨cs, rfl, _, h1⟩
    refine ⟨hm, hl, n, fun i hi => ?_⟩
    obtain ⟨b, off, spot⟩ := a
    have hspot : spot = none := by
      obtain ⟨cs, hc, _⟩ := hall' 0 (by omega)
      obtain ⟨hb', hlen, hcell⟩ := World.cells?_some hc
      have hc0 := hcell 0 he
      cases hcs0 : cs[0]? with
      | none => rw [List.getElem?_eq_none_iff] at hcs0; omega
      | some u => rw [hcs0] at hc0; simpa [Addr.add] using World.cell?_spot hc0
    subst hspot
    obtain ⟨cs, hc, y, h1⟩ := hall' i hi
    obtain ⟨hb', hlen, hcell⟩ := World.cells?_some hc
    refine ⟨b, off, rfl, ?_, cs, y, hlen, fun j u hj => ?_, h1⟩
    · have := World.cells?_block hc he
      rwa [WideShapes.add_plain] at this
    · have hj' : j < P.cellsOf e := by rw [← hlen]; exact (List.getElem?_eq_some_iff.1 hj).1
      have := hcell j hj'
      rw [WideShapes.add_plain, WideShapes.add_plain] at this
      rw [this, hj]
end
end Go.Proofs.Ytamnffcafbfojaa
