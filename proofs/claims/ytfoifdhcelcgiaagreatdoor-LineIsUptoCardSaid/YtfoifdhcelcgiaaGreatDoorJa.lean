/-
  Rows, maps and texts in memory; pack and ref01; the operations and rounds of sha, plain.
-/
import Derived.Maps.RangeWalk
import Derived.Maps.OwnSet
import Derived.WalkKit
import Derived.ProofKit
import Derived.Maps.AppendAt
import Derived.Deep.AppendLies
import Derived.Deep.RegionHeld3
import Derived.Lib.AppendStr
import Derived.Lib.ConvBytes
import Derived.Laws.BytesArg
import Derived.Laws.Concat
import Derived.Lib.Hide
import Derived.Test.YtfoifdhcelcgiaaGreatDoorRows
import Derived.Deep.DeepMust
import Derived.BigQuiet
import Derived.StillTailTactics
import Derived.BigRegion
/- A MAP'S BLOCK AS A LIST OF PAIRS OF VALUES, IN SOME ORDER: look-up, store, delete, m[k]++, range. Program-independent. -/
namespace Go.Proofs.YtfoifdhcelcgiaaGreatDoor
open Go Go.MapKept Go.ChangeMaps Go.RowKit
open Go.Maps (Keyed)

/-- block b of w is a map that holds just the pairs of L, in some order -/
def hasMap (P : Program) (k : TypeId) (w : World) (b : Nat) (L : List (Value × Value)) : Prop :=
  ∃ es clock, w.heap[b]? = some (.map es clock) ∧ Stamped es clock ∧ (∀ x ∈ es.toList, ∃ l, keyOf P k x.key = some l) ∧ (es.toList.map fun x => (x.key, x.val)).Perm L

section
variable {P : Program} {k : TypeId} {w w' : World} {b : Nat} {L L' : List (Value × Value)}

theorem hasMap.perm (h : hasMap P k w b L) (hp : L.Perm L') : hasMap P k w b L' := by
  obtain ⟨es, clock, h1, h2, h3, h4⟩ := h
  exact ⟨es, clock, h1, h2, h3, h4.trans hp⟩

theorem hasMap.lt (h : hasMap P k w b L) : b < w.heap.size := by
  obtain ⟨es, clock, h1, _⟩ := h
  exact (Array.getElem?_eq_some_iff.1 h1).1

theorem hasMap.of_block (h : hasMap P k w b L) (hb : w'.heap[b]? = w.heap[b]?) : hasMap P k w' b L := by
  obtain ⟨es, clock, h1, h2⟩ := h
  exact ⟨es, clock, hb.trans h1, h2⟩

theorem hasMap.nodup (h : hasMap P k w b L) : (L.map (·.1)).Nodup := by
  obtain ⟨es, clock, _, h2, _, h4⟩ := h
  have h5 := h4.map (·.1)
  rw [List.map_map] at h5
  exact h5.nodup_iff.1 h2.2.2

theorem hasMap.keys (h : hasMap P k w b L) : ∀ p ∈ L, ∃ l, keyOf P k p.1 = some l := by
  obtain ⟨es, clock, _, _, h3, h4⟩ := h
  intro p hp
  obtain ⟨x, hx, rfl⟩ := List.mem_map.1 (h4.mem_iff.2 hp)
  exact h3 x hx

theorem hasMap_made (P : Program) (k : TypeId) (w : World) : hasMap P k (w.alloc (.map #[] 0)) w.heap.size [] :=
  ⟨#[], 0, (MapKept.heap_alloc w _).1, stamped_empty 0, by simp, by simp⟩

/-- a look-up -/
theorem hasMap.look {t e : TypeId} (h : hasMap P k w b L) (K : Keyed P k) (ht : P.underlying t = some (.map k e)) {z : Value} (hz : (zeroValue e).run P w = .ok z w) {key : Value} {kl : Lit} (hkey : keyOf P k key = some kl) (c : Bool) :
    ((∀ v, (key, v) ∉ L) ∧ (Instr.lookup t (.map (some b)) key c).run P w = .ok (if c then .tuple #[z, .bool false] else z) w) ∨
    ∃ v, (key, v) ∈ L ∧ (Instr.lookup t (.map (some b)) key c).run P w = .ok (if c then .tuple #[v, .bool true] else v) w := by
  obtain ⟨es, clock, hb, hs, hk, hp⟩ := h
  rcases K.find w hkey es.toList hk with ⟨h1, h2⟩ | ⟨j, e0, h1, h2, h3⟩
  · refine Or.inl ⟨fun v hv => ?_, by simp [Instr.lookup, run_underlying ht, MapKept.run_getObj_map hb, K.check w _ hkey, h1, hz, Result.andThen]⟩
    obtain ⟨x, hx, he⟩ := List.mem_map.1 (hp.mem_iff.2 hv)
    exact h2 x hx (congrArg Prod.fst he)
  · refine Or.inr ⟨e0.val, hp.mem_iff.1 (List.mem_map.2 ⟨e0, List.mem_of_getElem? h2, by rw [h3]⟩), by simp [Instr.lookup, run_underlying ht, MapKept.run_getObj_map hb, K.check w _ hkey, h1, Result.andThen]⟩

theorem perm_set {α : Type} : ∀ (l : List α) (j : Nat) (x y : α), l[j]? = some x → (l.set j y).Perm (y :: l.eraseIdx j) ∧ l.Perm (x :: l.eraseIdx j)
  | [], _, _, _, h => by simp at h
  | a :: r, 0, x, y, h => by simp at h; subst h; simp
  | a :: r, j + 1, x, y, h => by
    simp at h
    obtain ⟨h1, h2⟩ := perm_set r j x y h
    simp only [List.set_cons_succ, List.eraseIdx_cons_succ]
    exact ⟨(h1.cons a).trans (List.Perm.swap _ _ _), (h2.cons a).trans (List.Perm.swap _ _ _)⟩

/-- R is what is left of L when the pair at this key, if there is one, is taken away -/
def restAt (L : List (Value × Value)) (key : Value) (R : List (Value × Value)) : Prop := (∃ v, L.Perm ((key, v) :: R)) ∨ (L.Perm R ∧ ∀ v, (key, v) ∉ L)

theorem restAt_perm {key : Value} {R R' : List (Value × Value)} (hd : (L.map (·.1)).Nodup) (h : restAt L key R) (h' : restAt L key R') : R.Perm R' := by
  have hdr : ∀ {v u : Value}, (key, v) ∈ L → (key, u) ∈ L → v = u := by
    clear h h'
    induction L with
    | nil => intro v u hv; simp at hv
    | cons a r ih =>
      intro v u hv hu
      simp only [List.map_cons, List.nodup_cons] at hd
      rcases List.mem_cons.1 hv with hv | hv
      · rcases List.mem_cons.1 hu with hu | hu
        · rw [← hv] at hu; exact (Prod.mk.inj hu).2.symm
        · exact absurd (List.mem_map.2 ⟨_, hu, by rw [← hv]⟩) hd.1
      · rcases List.mem_cons.1 hu with hu | hu
        · exact absurd (List.mem_map.2 ⟨_, hv, by rw [← hu]⟩) hd.1
        · exact ih hd.2 hv hu
  rcases h with ⟨v, h⟩ | ⟨h, hn⟩ <;> rcases h' with ⟨u, h'⟩ | ⟨h', hn'⟩
  · have : v = u := hdr (h.mem_iff.2 (by simp)) (h'.mem_iff.2 (by simp))
    subst this
    exact (List.perm_cons _).1 (h.symm.trans h')
  · exact absurd (h.mem_iff.2 (by simp)) (hn' v)
  · exact absurd (h'.mem_iff.2 (by simp)) (hn u)
  · exact h.symm.trans h'

/-- a store -/
theorem hasMap.store {t e : TypeId} (h : hasMap P k w b L) (K : Keyed P k) (ht : P.underlying t = some (.map k e)) {key val : Value} {kl : Lit} (hkey : keyOf P k key = some kl) :
    ∃ w', (Instr.mapUpdate t (.map (some b)) key val).run P w = .ok () w' ∧ w.grownBy w' (some b) ∧ w'.heap.size = w.heap.size ∧ ∀ R, restAt L key R → hasMap P k w' b ((key, val) :: R) := by
  have hnd := h.nodup
  obtain ⟨es, clock, hb, hs, hk, hp⟩ := h
  have grown : ∀ es' clock', w.grownBy (setBlock w b (.map es' clock')) (some b) := fun es' clock' =>
    ⟨rfl, rfl, rfl, by simp [setBlock], fun i _ hi => heap_setBlock_other hb _ (fun e => hi (by rw [e]))⟩
  rcases K.find w hkey es.toList hk with ⟨h1, h2⟩ | ⟨j, e0, h1, h2, h3⟩
  · refine ⟨setBlock w b (.map (es.push ⟨key, val, clock⟩) (clock + 1)), by simp [Instr.mapUpdate, run_underlying ht, MapKept.run_getObj_map hb, K.check w false hkey, h1, MapKept.run_setObj_map _ hb, Result.andThen, setBlock], grown _ _, by simp [setBlock], fun R hR => ?_⟩
    have hno : ∀ v, (key, v) ∉ L := fun v hv => by
      obtain ⟨x, hx, he⟩ := List.mem_map.1 (hp.mem_iff.2 hv)
      exact h2 x hx (congrArg Prod.fst he)
    have hR' : L.Perm R := (restAt_perm hnd (Or.inr ⟨List.Perm.refl _, hno⟩) hR)
    refine ⟨_, _, heap_setBlock_same hb _, stamped_push hs h2, ?_, ?_⟩
    · intro x hx
      simp only [Array.toList_push, List.mem_append, List.mem_singleton] at hx
      rcases hx with hx | rfl
      · exact hk x hx
      · exact ⟨_, hkey⟩
    · simp only [Array.toList_push, List.map_append, List.map_cons, List.map_nil]
      exact (List.perm_append_singleton _ _).trans ((hp.trans hR').cons _)
  · have hj : es[j]? = some e0 := by simpa using h2
    refine ⟨setBlock w b (.map (es.modify j (fun e' => { e' with key := key, val := val })) clock), by simp [Instr.mapUpdate, run_underlying ht, MapKept.run_getObj_map hb, K.check w false hkey, h1, hj, h3, K.stays w hkey, MapKept.run_setObj_map _ hb, Result.andThen, setBlock], grown _ _, by simp [setBlock], fun R hR => ?_⟩
    have hlist : (es.modify j (fun e' => { e' with key := key, val := val })).toList = es.toList.set j { e0 with key := key, val := val } := by rw [Array.toList_modify, modify_eq_set _ _ _ _ h2]
    have hmap : (es.toList.map fun x => (x.key, x.val))[j]? = some (key, e0.val) := by simp [hj, h3]
    have hps := perm_set _ j (key, e0.val) (key, val) hmap
    have hR' := restAt_perm hnd (Or.inl ⟨e0.val, hp.symm.trans hps.2⟩) hR
    refine ⟨_, _, heap_setBlock_same hb _, stamped_modify hs _ _ (fun _ _ => rfl) (fun e' _ he' => by rw [hj] at he'; cases he'; exact h3.symm), ?_, ?_⟩
    · intro x hx
      rw [hlist] at hx
      rcases List.mem_or_eq_of_mem_set hx with hx | rfl
      · exact hk x hx
      · exact ⟨_, hkey⟩
    · rw [hlist, List.map_set]
      exact hps.1.trans (hR'.cons _)

/-- delete(m, k) -/
theorem hasMap.drop {t e : TypeId} (h : hasMap P k w b L) (K : Keyed P k) (ht : P.underlying t = some (.map k e)) {key : Value} {kl : Lit} (hkey : keyOf P k key = some kl) (ty : TypeId) :
    ∃ w', (Builtin.delete_ #[t, k] ty #[.map (some b), key]).run P w = .ok (.tuple #[]) w' ∧ w.grownBy w' (some b) ∧ w'.heap.size = w.heap.size ∧ ∀ R, restAt L key R → hasMap P k w' b R := by
  have hnd := h.nodup
  obtain ⟨es, clock, hb, hs, hk, hp⟩ := h
  have grown : ∀ es' clock', w.grownBy (setBlock w b (.map es' clock')) (some b) := fun es' clock' =>
    ⟨rfl, rfl, rfl, by simp [setBlock], fun i _ hi => heap_setBlock_other hb _ (fun e => hi (by rw [e]))⟩
  rcases K.find w hkey es.toList hk with ⟨h1, h2⟩ | ⟨j, e0, h1, h2, h3⟩
  · refine ⟨setBlock w b (.map es clock), by simp [Builtin.delete_, run_underlying ht, MapKept.run_getObj_map hb, K.check w _ hkey, h1, MapKept.run_setObj_map _ hb, Result.andThen, setBlock], grown _ _, by simp [setBlock], fun R hR => ?_⟩
    have hno : ∀ v, (key, v) ∉ L := fun v hv => by
      obtain ⟨x, hx, he⟩ := List.mem_map.1 (hp.mem_iff.2 hv)
      exact h2 x hx (congrArg Prod.fst he)
    exact ⟨es, clock, heap_setBlock_same hb _, hs, hk, hp.trans (restAt_perm hnd (Or.inr ⟨List.Perm.refl _, hno⟩) hR)⟩
  · have hjl : j < es.toList.length := (List.getElem?_eq_some_iff.1 h2).1
    have hjs : j < es.size := by simpa using hjl
    have hj : es[j]? = some e0 := by simpa using h2
    have hsub : (es.eraseIdxIfInBounds j).toList = es.toList.eraseIdx j := by
      unfold Array.eraseIdxIfInBounds
      rw [dif_pos hjs]
      simp
    have hmap : (es.toList.map fun x => (x.key, x.val))[j]? = some (key, e0.val) := by simp [hj, h3]
    have hps := perm_set _ j (key, e0.val) (key, e0.val) hmap
    refine ⟨setBlock w b (.map (es.eraseIdxIfInBounds j) clock), by simp [Builtin.delete_, run_underlying ht, MapKept.run_getObj_map hb, K.check w _ hkey, h1, MapKept.run_setObj_map _ hb, Result.andThen, setBlock], grown _ _, by simp [setBlock], fun R hR => ?_⟩
    refine ⟨_, _, heap_setBlock_same hb _, stamped_erase hs j, ?_, ?_⟩
    · intro x hx
      rw [hsub] at hx
      exact hk x ((List.eraseIdx_sublist _ _).subset hx)
    · rw [hsub, map_eraseIdx]
      exact restAt_perm hnd (Or.inl ⟨e0.val, hp.symm.trans hps.2⟩) hR

end

/-! ### at the operations, for the walk -/
section
variable {P : Program} (w : World) {ops : Array Oper} {rest : List Oper} {o : Oper} {a : Act} {Q : Exit → Act → World → Prop}

/-- m[k], with or without ok -/
theorem wpList_look (hg : o.guard = none) (m x : Operand) (t : TypeId) (c : Bool) (hop : o.op = Op.lookup t m x c)
    (k e : TypeId) (K : Keyed P k) (ht : P.underlying t = some (.map k e)) (z : Value) (hz : (zeroValue e).run P w = .ok z w) (b : Nat) (L : List (Value × Value))
    (hm : a.eval m = .map (some b)) (hown : hasMap P k w b L) (key : Value) (kl : Lit) (hx : a.eval x = key) (hkey : keyOf P k key = some kl)
    (hno : (∀ v, (key, v) ∉ L) → wpList P ops Q rest (a.put o.dst (if c then .tuple #[z, .bool false] else z)) w)
    (hyes : ∀ v, (key, v) ∈ L → wpList P ops Q rest (a.put o.dst (if c then .tuple #[v, .bool true] else v)) w) :
    wpList P ops Q (o :: rest) a w := by
  refine wpList_plain hg fun K' hK' => ?_
  rcases hown.look K ht hz hkey c with ⟨h1, hrun⟩ | ⟨v, h1, hrun⟩
  · unfold Oper.wp
    simp [execOp, hop, hm, hx, hrun, Result.andThen]
    exact hK' _ _ (hno h1)
  · unfold Oper.wp
    simp [execOp, hop, hm, hx, hrun, Result.andThen]
    exact hK' _ _ (hyes v h1)

/-- m[k] = v -/
theorem wpList_store (hg : o.guard = none) (m x v : Operand) (t : TypeId) (hop : o.op = Op.mapUpdate t m x v)
    (k e : TypeId) (K : Keyed P k) (ht : P.underlying t = some (.map k e)) (b : Nat) (L : List (Value × Value))
    (hm : a.eval m = .map (some b)) (hown : hasMap P k w b L) (key val : Value) (kl : Lit) (hx : a.eval x = key) (hv : a.eval v = val) (hkey : keyOf P k key = some kl)
    (hK : ∀ w', w.grownBy w' (some b) → w'.heap.size = w.heap.size → (∀ R, restAt L key R → hasMap P k w' b ((key, val) :: R)) → wpList P ops Q rest (a.put o.dst undef) w') :
    wpList P ops Q (o :: rest) a w := by
  refine wpList_plain hg fun K' hK' => ?_
  obtain ⟨w', hrun, r1, r2, r3⟩ := hown.store K ht (val := val) hkey
  unfold Oper.wp
  simp [execOp, hop, hm, hx, hv, hrun, Result.andThen]
  exact hK' _ _ (hK w' r1 r2 r3)

/-- delete(m, k) -/
theorem wpList_drop (hg : o.guard = none) (m x : Operand) (t k : TypeId) (hop : o.op = Op.call { callee := Callee.builtin Builtin.delete, args := #[m, x], argTypes := #[t, k] })
    (e : TypeId) (K : Keyed P k) (ht : P.underlying t = some (.map k e)) (b : Nat) (L : List (Value × Value))
    (hm : a.eval m = .map (some b)) (hown : hasMap P k w b L) (key : Value) (kl : Lit) (hx : a.eval x = key) (hkey : keyOf P k key = some kl)
    (hK : ∀ w', w.grownBy w' (some b) → w'.heap.size = w.heap.size → (∀ R, restAt L key R → hasMap P k w' b R) → wpList P ops Q rest (a.put o.dst (.tuple #[])) w') :
    wpList P ops Q (o :: rest) a w := by
  refine wpList_plain hg fun K' hK' => ?_
  obtain ⟨w', hrun, r1, r2, r3⟩ := hown.drop K ht hkey o.type
  unfold Oper.wp
  simp [execOp, hop, resolve, invoke, builtin, hm, hx, hrun, Result.andThen]
  exact hK' _ _ (hK w' r1 r2 r3)

end
end Go.Proofs.YtfoifdhcelcgiaaGreatDoor

/- A WHOLE STRUCT OR ARRAY, HOWEVER MANY CELLS: loaded from anywhere, laid in a block of its own, stored there. And what a struct that came in reads as, field by field. -/
namespace Go.Proofs.YtfoifdhcelcgiaaGreatDoor
open Go Go.RowKit

def isRowD (d : TypeDesc) : Bool := match d with | .struct _ | .array _ _ => true | _ => false

/-- the cells from this place on are cs -/
def cellsAt (w : World) (b off : Nat) (cs : List Value) : Prop := ∀ (j : Nat) (u : Value), cs[j]? = some u → w.cell? ⟨b, off + j, none⟩ = some u

theorem cellsAt.of_block {w w' : World} {b off : Nat} {cs : List Value} (h : cellsAt w b off cs) (hb : w'.heap[b]? = w.heap[b]?) : cellsAt w' b off cs :=
  fun j u hj => (World.cell?_of_block hb).trans (h j u hj)

theorem cellsAt_new (w : World) (cs : Array Value) (t : TypeId) : cellsAt (w.alloc (.cells cs t)) w.heap.size 0 cs.toList := fun j u hj => by
  rw [cell_of_row _ _ _ cs t (0, 0) ((MapKept.heap_alloc w _).1), Nat.zero_add]
  simpa using hj

section
variable {P : Program}

theorem isAgg_of {w : World} {t : TypeId} {d : TypeDesc} (hu : P.underlying t = some d) (hd : isRowD d = true) : (isAgg t).run P w = .ok true w := by
  unfold isAgg
  rw [Sem.run_bind, run_underlying hu w]
  cases d <;> simp_all [isRowD, Result.andThen]

theorem sizeOf_of {w : World} {t : TypeId} {n : Nat} (hi : (P.info? t).map (·.size) = some n) : (sizeOf t).run P w = .ok n w := by
  cases hq : P.info? t with
  | none => simp [hq] at hi
  | some i =>
    have hs : i.size = n := by simpa [hq] using hi
    simp [sizeOf, typeInfo, hq, hs]

/-- a type's zero, and how many cells it has: two numbers that the kernel reads -/
theorem zero_of {t : TypeId} {n : Nat} (h : (P.info? t).map (fun i => (i.zero.map (·.cells.size), i.size)) = some (some n, n)) :
    (P.info? t).map (·.size) = some n ∧ ∃ Z, (∀ w, (zeroValue t).run P w = .ok Z w) ∧ Z.cells.size = n := by
  cases hq : P.info? t with
  | none => simp [hq] at h
  | some i =>
    rw [hq] at h
    simp only [Option.map_some, Option.some.injEq, Prod.mk.injEq] at h
    refine ⟨by simp [h.2], ?_⟩
    cases hz : i.zero with
    | none => simp [hz] at h
    | some Z => exact ⟨Z, fun w => by simp [zeroValue, typeInfo, hq, hz], by simpa [hz] using h.1⟩

theorem run_loadAgg {w : World} {b off : Nat} {t : TypeId} {d : TypeDesc} {cs : List Value} (hu : P.underlying t = some d) (hd : isRowD d = true) (hi : (P.info? t).map (·.size) = some cs.length) (hc : cellsAt w b off cs) :
    (loadVar t ⟨b, off, none⟩).run P w = .ok (.agg cs.toArray) w := by
  have hl : (loadCells ⟨b, off, none⟩ cs.length).run P w = .ok cs.toArray w := run_loadCells_list (P := P) w ⟨b, off, none⟩ cs (fun j v hv => by
    have hadd : (⟨b, off, none⟩ : Addr).add j = ⟨b, off + j, none⟩ := by unfold Addr.add; split <;> simp_all
    rw [hadd]
    exact hc j v hv)
  unfold loadVar
  simp only [Sem.run_bind, isAgg_of hu hd, Result.andThen, if_true, sizeOf_of hi, hl, Sem.run_pure]

variable (w : World) {ops : Array Oper} {rest : List Oper} {o : Oper} {a : Act} {Q : Exit → Act → World → Prop}

theorem wpList_loadAgg (hg : o.guard = none) (t : TypeId) (x : Operand) (hop : o.op = .load t x) (d : TypeDesc) (hu : P.underlying t = some d) (hd : isRowD d = true)
    (b off : Nat) (hx : a.eval x = .pointer (some ⟨b, off, none⟩)) (cs : List Value) (hi : (P.info? t).map (·.size) = some cs.length) (hc : cellsAt w b off cs)
    (h : wpList P ops Q rest (a.put o.dst (.agg cs.toArray)) w) : wpList P ops Q (o :: rest) a w := by
  refine wpList_plain hg fun K' hK' => ?_
  unfold Oper.wp execOp
  simp only [hop, hx, Instr.loadAt, Instr.sureAddr, Sem.run_bind, Sem.run_pure, Result.andThen_ok, run_loadAgg hu hd hi hc]
  exact hK' _ _ h

/-- a new variable: its zero's cells stay under their name -/
theorem wpList_allocZ (hg : o.guard = none) (t : TypeId) (hop : o.op = .alloc t) (Z : Value) (hz : ∀ w, (zeroValue t).run P w = .ok Z w)
    (h : wpList P ops Q rest (a.put o.dst (.pointer (some ⟨w.heap.size, 0, none⟩))) (w.alloc (.cells Z.cells t))) : wpList P ops Q (o :: rest) a w := by
  refine wpList_plain hg fun K' hK' => ?_
  unfold Oper.wp execOp
  have hn : (newVar t Z).run P w = .ok ⟨w.heap.size, 0, none⟩ (w.alloc (.cells Z.cells t)) := rfl
  simp only [hop, Instr.alloc, Sem.run_bind, hz, Result.andThen_ok, hn, Sem.run_pure]
  exact hK' _ _ h

/-- .. and a whole value into it, at once -/
theorem wpList_storeNew (w0 : World) (hg : o.guard = none) (t : TypeId) (x v : Operand) (hop : o.op = .store t x v) (Z : Array Value) (hw : w = w0.alloc (.cells Z t))
    (hx : a.eval x = .pointer (some ⟨w0.heap.size, 0, none⟩)) (cs : Array Value) (hv : a.eval v = .agg cs) (hi : (P.info? t).map (·.size) = some cs.size) (hZ : Z.size = cs.size) (h1 : ∀ u ∈ cs.toList, u.oneCell' = true)
    (h : wpList P ops Q rest (a.put o.dst undef) (w0.alloc (.cells cs t))) : wpList P ops Q (o :: rest) a w := by
  subst hw
  refine wpList_plain hg fun K' hK' => ?_
  unfold Oper.wp execOp
  have hst : (storeCells ⟨w0.heap.size, 0, none⟩ cs.toList).run P (w0.alloc (.cells Z t)) = .ok () ((w0.alloc (.cells Z t)).setRow w0.heap.size cs) := by
    have := run_storeCells_from (P := P) w0.heap.size t cs.toList 0 Z (w0.alloc (.cells Z t)) (MapKept.heap_alloc w0 _).1 (by simp [hZ]) h1
    simpa using this
  have hrow : (w0.alloc (.cells Z t)).setRow w0.heap.size cs = w0.alloc (.cells cs t) := by
    unfold World.setRow World.alloc
    simp only
    congr 1
    apply Array.ext_getElem?
    intro i
    rw [Array.getElem?_modify]
    split
    · rename_i hi'
      subst hi'
      simp
    · rename_i hi'
      rw [Array.getElem?_push, Array.getElem?_push, if_neg (fun e => hi' e.symm), if_neg (fun e => hi' e.symm)]
  have hsv : (storeVar t ⟨w0.heap.size, 0, none⟩ (.agg cs)).run P (w0.alloc (.cells Z t)) = .ok () (w0.alloc (.cells cs t)) := by
    unfold storeVar
    simp only [Sem.run_bind, sizeOf_of hi, Result.andThen, Value.cells, ne_eq, not_true_eq_false, if_false, hst, hrow]
  simp only [hop, hx, hv, Instr.storeAt, Instr.sureAddr, Sem.run_bind, Sem.run_pure, Result.andThen_ok, hsv]
  exact hK' _ _ h

/-- a new variable that holds a whole value at once -/
theorem wpList_boxAgg (hg : o.guard = none) (t : TypeId) (x : Operand) (hop : o.op = .box t x) (cs : Array Value) (hx : a.eval x = .agg cs)
    (h : wpList P ops Q rest (a.put o.dst (.pointer (some ⟨w.heap.size, 0, none⟩))) (w.alloc (.cells cs t))) : wpList P ops Q (o :: rest) a w := by
  refine wpList_plain hg fun K' hK' => ?_
  have hn : (Instr.box t (.agg cs)).run P w = .ok (.pointer (some ⟨w.heap.size, 0, none⟩)) (w.alloc (.cells cs t)) := rfl
  unfold Oper.wp execOp
  simp only [hop, hx, Sem.run_bind, hn, Result.andThen_ok, Sem.run_pure]
  exact hK' _ _ h
end

/-! ### what came in -/
section
variable {H : Type} {enc : TypeId × Value → H} {P : Program} {W : World} {base : Nat} {sp : Nat → Bool} {held : Bool}

theorem mapM_all {α β : Type} {f : α → Option β} : ∀ {l : List α} {ys : List β}, l.mapM f = some ys → ∀ x ∈ l, ∃ y, f x = some y
  | [], _, _, x, hx => by simp at hx
  | a :: l, ys, h, x, hx => by
    rw [List.mapM_cons] at h
    cases ha : f a with
    | none => simp [ha] at h
    | some b =>
      cases hl : l.mapM f with
      | none => simp [ha, hl] at h
      | some bs =>
        rcases List.mem_cons.1 hx with rfl | hx
        · exact ⟨b, ha⟩
        · exact mapM_all hl x hx

/-- a struct: each field reads -/
theorem trod_struct {fuel : Nat} {t : TypeId} {fs : Array Field} {cs : List Value} {x : DataW H × List MemPlace} (ht : P.underlying t = some (.struct fs)) (h : DataW.trod enc P W base sp held (fuel + 1) t cs = some x) :
    cs.length = P.cellsOf t ∧ ∀ f ∈ fs.toList, ∃ y, DataW.trod enc P W base sp held fuel f.type ((cs.drop f.offset).take (P.cellsOf f.type)) = some y := by
  rw [DataW.trod.eq_def] at h
  simp only [ht] at h
  split at h
  · rename_i hl
    refine ⟨hl, fun f hf => ?_⟩
    simp only [Option.map_eq_some_iff] at h
    obtain ⟨ys, hy, _⟩ := h
    exact mapM_all hy f hf
  · cases h

/-- an array: each element reads -/
theorem trod_array {fuel : Nat} {t e : TypeId} {n : Nat} {cs : List Value} {x : DataW H × List MemPlace} (ht : P.underlying t = some (.array n e)) (h : DataW.trod enc P W base sp held (fuel + 1) t cs = some x) :
    cs.length = P.cellsOf t ∧ ∀ i, i < n → ∃ y, DataW.trod enc P W base sp held fuel e ((cs.drop (i * P.cellsOf e)).take (P.cellsOf e)) = some y := by
  rw [DataW.trod.eq_def] at h
  simp only [ht] at h
  split at h
  · rename_i hl
    refine ⟨hl, fun i hi => ?_⟩
    simp only [Option.map_eq_some_iff] at h
    obtain ⟨ys, hy, _⟩ := h
    exact mapM_all hy i (List.mem_range.2 hi)
  · cases h

theorem trod_fuel {fuel : Nat} {t : TypeId} {cs : List Value} {x : DataW H × List MemPlace} (h : DataW.trod enc P W base sp held fuel t cs = some x) : ∃ n, fuel = n + 1 := by
  cases fuel with
  | zero => simp [DataW.trod] at h
  | succ n => exact ⟨n, rfl⟩

theorem trod_int_cell {fuel : Nat} {t : TypeId} {k : IntKind} {cs : List Value} {x : DataW H × List MemPlace} (ht : P.underlying t = some (.int k)) (h : DataW.trod enc P W base sp held fuel t cs = some x) :
    ∃ n, cs = [.int k n] ∧ (Lit.int k n).wf = true := by
  obtain ⟨m, rfl⟩ := trod_fuel h
  rw [DataW.trod.eq_def] at h
  simp only [ht] at h
  split at h <;> simp_all

theorem trod_string_cell {fuel : Nat} {t : TypeId} {cs : List Value} {x : DataW H × List MemPlace} (ht : P.underlying t = some .string) (h : DataW.trod enc P W base sp held fuel t cs = some x) :
    ∃ s : ByteArray, cs = [.string s] ∧ s.size ≤ maxLen := by
  obtain ⟨m, rfl⟩ := trod_fuel h
  rw [DataW.trod.eq_def] at h
  simp only [ht] at h
  split at h <;> simp_all

/-- a type of ints, bools, strings, slices, and structs and arrays of such: each of its cells lies in a field -/
def flatB (P : Program) : Nat → TypeId → Bool
  | 0, _ => false
  | n + 1, t =>
    match P.underlying t with
    | some (.int _) | some .bool | some .string | some (.slice _) => true
    | some (.struct fs) => (List.range (P.cellsOf t)).all (fun j => fs.toList.any fun f => decide (f.offset ≤ j) && decide (j < f.offset + P.cellsOf f.type)) && fs.toList.all fun f => flatB P n f.type
    | some (.array k e) => decide (P.cellsOf t = k * P.cellsOf e) && flatB P n e
    | _ => false

theorem mem_piece {α : Type} {cs : List α} {off n j : Nat} (h1 : off ≤ j) (h2 : j < off + n) (hj : j < cs.length) : cs[j] ∈ (cs.drop off).take n := by
  rw [List.mem_iff_getElem?]
  refine ⟨j - off, ?_⟩
  rw [List.getElem?_take, if_pos (by omega), List.getElem?_drop, show off + (j - off) = j by omega, List.getElem?_eq_getElem hj]

theorem flat_cells : ∀ {n fuel : Nat} {t : TypeId} {cs : List Value} {x : DataW H × List MemPlace}, flatB P n t = true → DataW.trod enc P W base sp held fuel t cs = some x → ∀ u ∈ cs, u.oneCell' = true
  | 0, _, _, _, _, h, _ => by simp [flatB] at h
  | n + 1, fuel, t, cs, x, h, ht => by
    obtain ⟨m, rfl⟩ := trod_fuel ht
    unfold flatB at h
    cases hu : P.underlying t with
    | none => simp [hu] at h
    | some d =>
      rw [hu] at h
      cases d with
      | int k => obtain ⟨v, rfl, _⟩ := trod_int_cell hu ht; simp [Value.oneCell']
      | bool =>
        rw [DataW.trod.eq_def] at ht
        simp only [hu] at ht
        split at ht <;> simp_all [Value.oneCell']
      | string => obtain ⟨v, rfl, _⟩ := trod_string_cell hu ht; simp [Value.oneCell']
      | slice e =>
        rw [DataW.trod.eq_def] at ht
        simp only [hu] at ht
        split at ht <;> simp_all [Value.oneCell']
      | struct fs =>
        simp only [Bool.and_eq_true, List.all_eq_true, List.mem_range, List.any_eq_true, decide_eq_true_eq] at h
        obtain ⟨hl, hf⟩ := trod_struct hu ht
        intro u hm
        obtain ⟨j, hj, rfl⟩ := List.mem_iff_getElem.1 hm
        obtain ⟨f, hfm, h1, h2⟩ := h.1 j (by omega)
        obtain ⟨y, hy⟩ := hf f hfm
        exact flat_cells (h.2 f hfm) hy _ (mem_piece h1 h2 hj)
      | array k e =>
        simp only [Bool.and_eq_true, decide_eq_true_eq] at h
        obtain ⟨hl, hf⟩ := trod_array hu ht
        intro u hm
        obtain ⟨j, hj, rfl⟩ := List.mem_iff_getElem.1 hm
        have hc : 0 < P.cellsOf e := Nat.pos_of_ne_zero (fun e0 => by rw [e0] at h; omega)
        have hi : j / P.cellsOf e < k := Nat.div_lt_of_lt_mul (by rw [Nat.mul_comm]; omega)
        obtain ⟨y, hy⟩ := hf _ hi
        have := Nat.div_add_mod j (P.cellsOf e)
        have := Nat.mod_lt j hc
        exact flat_cells h.2 hy _ (mem_piece (by rw [Nat.mul_comm]; omega) (by rw [Nat.mul_comm]; omega) hj)
      | _ => simp at h

/-- the one cell that a field takes -/
theorem field_cell {cs : List Value} {off : Nat} {v : Value} (h : (cs.drop off).take 1 = [v]) : cs[off]? = some v := by
  have : (cs.drop off)[0]? = some v := by
    have h0 := congrArg (fun l : List Value => l[0]?) h
    simpa using h0
  simpa using this

/-- a slice that came in: its elements' cells -/
theorem trod_slice_cells {t e : TypeId} {fuel : Nat} {a0 : Option Addr} {len cap : Nat} {x : DataW H × List MemPlace} (ht : P.underlying t = some (.slice e)) (he : 0 < P.cellsOf e) (h : DataW.trod enc P W base sp held fuel t [.slice a0 len cap] = some x) :
    cap ≤ maxLen ∧ len ≤ cap ∧ ∃ n, ∀ i, i < len → ∃ b off, a0 = some ⟨b, off, none⟩ ∧ b < W.heap.size ∧ ∃ (cs : List Value) (y : DataW H × List MemPlace), cs.length = P.cellsOf e ∧ cellsAt W b (off + i * P.cellsOf e) cs ∧ DataW.trod enc P W base sp held n e cs = some y := by
  rcases DataW.trod_slice ht h with ⟨hcs, _⟩ | ⟨a, len', cap', elems, rest, n, _, hcs, _, hb, hl, hm, hel, hall, _, _⟩
  · simp at hcs
    obtain ⟨rfl, rfl, rfl⟩ := hcs
    exact ⟨by unfold maxLen; omega, Nat.le_refl _, 0, fun i hi => by omega⟩
  · simp at hcs
    obtain ⟨rfl, rfl, rfl⟩ := hcs
    have hall' : ∀ i, i < len → ∃ cs, W.cells? base (a.add (i * P.cellsOf e)) (P.cellsOf e) = some cs ∧ ∃ y, DataW.trod enc P W base sp held n e cs = some y := fun i hi => by
      have h1 := hall i hi
      rw [List.getElem?_eq_getElem (by omega)] at h1
      cases hc : W.cells? base (a.add (i * P.cellsOf e)) (P.cellsOf e) with
      | none => rw [hc] at h1; simp at h1
      | some cs => rw [hc] at h1; exact ⟨cs, rfl, _, h1⟩
    refine ⟨hm, hl, n, fun i hi => ?_⟩
    obtain ⟨b, off, spot⟩ := a
    have hspot : spot = none := by
      obtain ⟨cs, hc, _⟩ := hall' 0 (by omega)
      obtain ⟨hb', hlen, hcell⟩ := World.cells?_some hc
      have hc0 := hcell 0 he
      cases hcs0 : cs[0]? with
      | none => rw [List.getElem?_eq_none_iff] at hcs0; omega
      | some u => rw [hcs0] at hc0; simpa [Addr.add] using World.cell?_spot hc0
    subst hspot
    obtain ⟨cs, hc, y, h1⟩ := hall' i hi
    obtain ⟨hb', hlen, hcell⟩ := World.cells?_some hc
    refine ⟨b, off, rfl, ?_, cs, y, hlen, fun j u hj => ?_, h1⟩
    · have := World.cells?_block hc he
      rwa [WideShapes.add_plain] at this
    · have hj' : j < P.cellsOf e := by rw [← hlen]; exact (List.getElem?_eq_some_iff.1 hj).1
      have := hcell j hj'
      rw [WideShapes.add_plain, WideShapes.add_plain] at this
      rw [this, hj]
end
end Go.Proofs.YtfoifdhcelcgiaaGreatDoor

/- APPEND ONTO A ROW OF THE CALL'S OWN, THE SOURCE NIL OR NOT: as a run, at a list of operations, at a step of a region that draws its order. -/
namespace Go.Proofs.YtfoifdhcelcgiaaGreatDoor
open Go Go.RowKit

section
variable {P : Program} {w : World}

/-- what a slice's cells are: this list of values, from here on -/
def SrcAt (w : World) (A : Option Addr) (cs : List Value) : Prop := ∀ j u, cs[j]? = some u → ∃ b off, A = some ⟨b, off, none⟩ ∧ w.cell? ⟨b, off + j, none⟩ = some u

theorem SrcAt.nil (w : World) (A : Option Addr) : SrcAt w A [] := fun j u h => by simp at h

theorem SrcAt.below {w w' : World} {B : Nat} {A : Option Addr} {cs : List Value} (h : SrcAt w A cs) (hB : ∀ b off, A = some ⟨b, off, none⟩ → b < B) (hb : Below B w w') : SrcAt w' A cs := fun j u hj => by
  obtain ⟨b, off, e, hc⟩ := h j u hj
  exact ⟨b, off, e, (hb.cell (p := ⟨b, off + j, none⟩) (hB b off e)).trans hc⟩

theorem SrcAt.of_block {w w' : World} {A : Option Addr} {cs : List Value} (h : SrcAt w A cs) (hb : ∀ b off, A = some ⟨b, off, none⟩ → w'.heap[b]? = w.heap[b]?) : SrcAt w' A cs := fun j u hj => by
  obtain ⟨b, off, e, hc⟩ := h j u hj
  exact ⟨b, off, e, (World.cell?_of_block (a := ⟨b, off + j, none⟩) (hb b off e)).trans hc⟩

theorem src_new (w : World) (cs : List Value) (t : TypeId) : SrcAt (w.alloc (.cells cs.toArray t)) (some ⟨w.heap.size, 0, none⟩) cs := fun j u hj => by
  refine ⟨w.heap.size, 0, rfl, ?_⟩
  have := cellsAt_new w cs.toArray t j u (by simpa using hj)
  simpa using this

/-- a row that is owned, as a source -/
theorem ownsRow_src {base : Nat} {e : TypeId} {size n cap : Nat} {p : Option Addr} {xs : List Value} (h : w.ownsRow base e size (.slice p n cap) n xs) : SrcAt w p xs := fun j u hj => by
  rcases h.2 with ⟨_, h0⟩ | ⟨g, cap0, cur, hv, hg, hh, h1, h2, h3, h4⟩
  · have := h.1
    rw [h0, Nat.zero_mul] at this
    rw [List.eq_nil_of_length_eq_zero this] at hj
    simp at hj
  · simp at hv
    obtain ⟨rfl, rfl⟩ := hv
    refine ⟨g, 0, rfl, ?_⟩
    rw [cell_of_row _ _ _ _ _ _ hh, Nat.zero_add]
    rw [← h4] at hj
    rw [List.getElem?_take] at hj
    split at hj
    · simpa using hj
    · cases hj

theorem ownsRow_at {base : Nat} {e : TypeId} {size n cap : Nat} {p : Option Addr} {xs : List Value} (h : w.ownsRow base e size (.slice p n cap) n xs) {b off : Nat} (hp : p = some ⟨b, off, none⟩) : base ≤ b ∧ b < w.heap.size ∧ off = 0 ∧ n ≤ cap := by
  rcases h.2 with ⟨hv, _⟩ | ⟨g, cap0, cur, hv, hg, hh, h1, h2, h3, h4⟩
  · simp at hv
    rw [hv.1] at hp
    cases hp
  · simp at hv
    obtain ⟨e1, e2⟩ := hv
    rw [e1] at hp
    simp at hp
    obtain ⟨rfl, rfl⟩ := hp
    exact ⟨hg, (Array.getElem?_eq_some_iff.1 hh).1, rfl, by omega⟩

theorem ownsRow_keep {w' : World} {base : Nat} {e : TypeId} {size n : Nat} {v : Value} {xs : List Value} (h : w.ownsRow base e size v n xs) (hk : ∀ g, v.ownBlock = some g → w'.heap[g]? = w.heap[g]?) : w'.ownsRow base e size v n xs := by
  refine ⟨h.1, ?_⟩
  rcases h.2 with h0 | ⟨g, cap0, cur, hv, hg, hh, h1⟩
  · exact .inl h0
  · exact .inr ⟨g, cap0, cur, hv, hg, (hk g (by rw [hv]; rfl)).trans hh, h1⟩

theorem ownsRow_lt {base : Nat} {e : TypeId} {size n : Nat} {v : Value} {xs : List Value} (h : w.ownsRow base e size v n xs) {g : Nat} (hg : v.ownBlock = some g) : base ≤ g ∧ g < w.heap.size := by
  rcases h.2 with ⟨rfl, _⟩ | ⟨g', cap0, cur, rfl, hg', hh, h1⟩
  · cases hg
  · simp [Value.ownBlock] at hg
    subst hg
    exact ⟨hg', (Array.getElem?_eq_some_iff.1 hh).1⟩

theorem ownsRow_below {w' : World} {base B : Nat} {e : TypeId} {size n : Nat} {v : Value} {xs : List Value} (h : w.ownsRow base e size v n xs) (hb : Below B w w') (hB : w.heap.size ≤ B) : w'.ownsRow base e size v n xs :=
  ownsRow_keep h fun g hg => hb.block g (Nat.lt_of_lt_of_le (ownsRow_lt h hg).2 hB)

/-- rows of unlike elements never share a block -/
theorem ownsRow_ne {base : Nat} {e t : TypeId} {size n g : Nat} {v : Value} {xs : List Value} {cs : Array Value} {fz : Nat × Nat} (h : w.ownsRow base e size v n xs) (hb : w.heap[g]? = some (.cells cs t fz)) (hne : e ≠ t) : v.ownBlock ≠ some g := by
  intro hv
  rcases h.2 with ⟨rfl, _⟩ | ⟨g', cap0, cur, rfl, hg', hh, h1⟩
  · cases hv
  · simp [Value.ownBlock] at hv
    subst hv
    rw [hh] at hb
    simp at hb
    exact hne hb.2.1

theorem ownsRow_ne2 {base base' : Nat} {e e' : TypeId} {size size' n n' g : Nat} {v v' : Value} {xs xs' : List Value} (h : w.ownsRow base e size v n xs) (h' : w.ownsRow base' e' size' v' n' xs') (hne : e ≠ e') (hg : v'.ownBlock = some g) : v.ownBlock ≠ some g := by
  rcases h'.2 with ⟨rfl, _⟩ | ⟨g', cap0, cur, rfl, hg', hh, h1⟩
  · cases hg
  · simp [Value.ownBlock] at hg
    subst hg
    exact ownsRow_ne h hh hne

/-- its first, and its last, as sources -/
theorem SrcAt.take {A : Option Addr} {cs : List Value} (h : SrcAt w A cs) (k : Nat) : SrcAt w A (cs.take k) := fun j u hj => by
  rw [List.getElem?_take] at hj
  split at hj
  · exact h j u hj
  · cases hj

theorem SrcAt.drop {b off : Nat} {cs : List Value} (h : SrcAt w (some ⟨b, off, none⟩) cs) (k : Nat) : SrcAt w (some ⟨b, off + k, none⟩) (cs.drop k) := fun j u hj => by
  rw [List.getElem?_drop] at hj
  obtain ⟨b', off', e, hc⟩ := h (k + j) u hj
  simp at e
  obtain ⟨rfl, rfl⟩ := e
  exact ⟨b, off + k, rfl, by rw [Nat.add_assoc]; exact hc⟩

theorem run_append_src (base : Nat) (t ty e : TypeId) (i : TypeInfo) (z : Value) (size bytes : Nat) (ht : P.underlying t = some (.slice e)) (hi : P.info? e = some i) (hz : i.zero = some z)
    (hsize : i.size = size) (hby : i.bytes = bytes) (hzs : z.cells.size = size) (hsz : 0 < size)
    (v : Value) (n : Nat) (xs : List Value) (hown : w.ownsRow base e size v n xs)
    (A : Option Addr) (m c : Nat) (news : List Value) (hl : news.length = m * size) (hnews : SrcAt w A news) (hA : ∀ a, A = some a → a.spot = none) (h1 : ∀ u ∈ news, u.oneCell' = true)
    (h63 : n + m ≤ maxLen) (hbytes : (n + m) * bytes ≤ 140737488355328) (hbase : base ≤ w.heap.size) :
    ∃ v' w', (Builtin.append_ #[t, t] ty #[v, .slice A m c]).run P w = .ok v' w' ∧ w'.ownsRow base e size v' (n + m) (xs ++ news) ∧ w.grownBy w' v.ownBlock ∧ (v'.ownBlock = v.ownBlock ∨ v'.ownBlock = some w.heap.size) := by
  cases A with
  | some ad =>
    obtain ⟨b, off, spot⟩ := ad
    have : spot = none := hA _ rfl
    subst this
    obtain ⟨v', w', h1, h2, h3, _, h5⟩ := run_append_own_at (P := P) w base t ty e i z size bytes ht hi hz hsize hby hzs hsz v n xs hown ⟨b, off, none⟩ m c news hl (fun j u hj => by
      obtain ⟨b', off', e', hc⟩ := hnews j u hj
      simp at e'
      obtain ⟨rfl, rfl⟩ := e'
      have hadd : (⟨b, off, none⟩ : Addr).add j = ⟨b, off + j, none⟩ := by unfold Addr.add; split <;> simp_all
      rw [hadd]
      exact hc) h1 h63 hbytes hbase
    exact ⟨v', w', h1, h2, h3, h5⟩
  | none =>
    have hn : news = [] := by
      cases news with
      | nil => rfl
      | cons u news =>
        obtain ⟨b, off, h, _⟩ := hnews 0 u rfl
        cases h
    subst hn
    have hm : m = 0 := by
      rcases Nat.eq_zero_or_pos m with h | h
      · exact h
      · have := Nat.mul_pos h hsz
        simp at hl
        omega
    subst hm
    refine ⟨v, w, ?_, by simpa using hown, World.grownBy.refl w _, .inl rfl⟩
    rcases hown.2 with ⟨rfl, rfl⟩ | ⟨g, cap, cur, rfl, _, _, hnc, _⟩
    · simp [Builtin.append_, run_underlying ht, sizeOf, typeInfo, hi, Builtin.lenOf, Builtin.firstCells]
    · simp [Builtin.append_, run_underlying ht, sizeOf, typeInfo, hi, Builtin.lenOf, Builtin.firstCells, hnc, storeCells]

theorem wp_append_src {o : Oper} {a : Act} {K : Act → World → Prop} {Q : Exit → Act → World → Prop} (s x : Operand) (t : TypeId)
    (ho : o.op = .call { callee := .builtin .append, args := #[s, x], argTypes := #[t, t] })
    (base : Nat) (e : TypeId) (i : TypeInfo) (z : Value) (size bytes : Nat) (ht : P.underlying t = some (.slice e)) (hi : P.info? e = some i) (hz : i.zero = some z)
    (hsize : i.size = size) (hby : i.bytes = bytes) (hzs : z.cells.size = size) (hsz : 0 < size)
    (v : Value) (n : Nat) (xs : List Value) (hs : a.eval s = v) (hown : w.ownsRow base e size v n xs)
    (A : Option Addr) (m c : Nat) (news : List Value) (hx : a.eval x = .slice A m c) (hl : news.length = m * size) (hnews : SrcAt w A news) (hA : ∀ a, A = some a → a.spot = none) (h1 : ∀ u ∈ news, u.oneCell' = true)
    (h63 : n + m ≤ maxLen) (hbytes : (n + m) * bytes ≤ 140737488355328) (hbase : base ≤ w.heap.size)
    (h : ∀ v' w', w'.ownsRow base e size v' (n + m) (xs ++ news) → w.grownBy w' v.ownBlock → (v'.ownBlock = v.ownBlock ∨ v'.ownBlock = some w.heap.size) → K (a.put o.dst v') w') : o.wp P a w K Q := by
  obtain ⟨v', w', hrun, h2, h3, h4⟩ := run_append_src (P := P) base t o.type e i z size bytes ht hi hz hsize hby hzs hsz v n xs hown A m c news hl hnews hA h1 h63 hbytes hbase
  unfold Oper.wp execOp
  simp only [ho, resolve, invoke, builtin, Sem.run_bind, Sem.run_pure, Result.andThen_ok, List.map_toArray, List.map_cons, List.map_nil, hs, hx, hrun]
  exact h v' w' h2 h3 h4

theorem wpList_append_src {ops : Array Oper} {rest : List Oper} {o : Oper} {a : Act} {Q : Exit → Act → World → Prop} (hgd : o.guard = none) (s x : Operand) (t : TypeId)
    (ho : o.op = .call { callee := .builtin .append, args := #[s, x], argTypes := #[t, t] })
    (base : Nat) (e : TypeId) (i : TypeInfo) (z : Value) (size bytes : Nat) (ht : P.underlying t = some (.slice e)) (hi : P.info? e = some i) (hz : i.zero = some z)
    (hsize : i.size = size) (hby : i.bytes = bytes) (hzs : z.cells.size = size) (hsz : 0 < size)
    (v : Value) (n : Nat) (xs : List Value) (hs : a.eval s = v) (hown : w.ownsRow base e size v n xs)
    (A : Option Addr) (m c : Nat) (news : List Value) (hx : a.eval x = .slice A m c) (hl : news.length = m * size) (hnews : SrcAt w A news) (hA : ∀ a, A = some a → a.spot = none) (h1 : ∀ u ∈ news, u.oneCell' = true)
    (h63 : n + m ≤ maxLen) (hbytes : (n + m) * bytes ≤ 140737488355328) (hbase : base ≤ w.heap.size)
    (h : ∀ v' w', w'.ownsRow base e size v' (n + m) (xs ++ news) → w.grownBy w' v.ownBlock → (v'.ownBlock = v.ownBlock ∨ v'.ownBlock = some w.heap.size) → wpList P ops Q rest (a.put o.dst v') w') : wpList P ops Q (o :: rest) a w :=
  wpList_plain hgd fun _ hK => wp_append_src s x t ho base e i z size bytes ht hi hz hsize hby hzs hsz v n xs hs hown A m c news hx hl hnews hA h1 h63 hbytes hbase fun v' w' h2 h3 h4 => hK _ _ (h v' w' h2 h3 h4)

theorem step_append_src {ops : Array Oper} {o : Oper} {a : Act} {K : Act → World → Prop} {Q : Exit → Act → World → Prop} {E : Prop} (hgd : o.guard = none) (s x : Operand) (t : TypeId)
    (ho : o.op = .call { callee := .builtin .append, args := #[s, x], argTypes := #[t, t] })
    (base : Nat) (e : TypeId) (i : TypeInfo) (z : Value) (size bytes : Nat) (ht : P.underlying t = some (.slice e)) (hi : P.info? e = some i) (hz : i.zero = some z)
    (hsize : i.size = size) (hby : i.bytes = bytes) (hzs : z.cells.size = size) (hsz : 0 < size)
    (v : Value) (n : Nat) (xs : List Value) (hs : a.eval s = v) (hown : w.ownsRow base e size v n xs)
    (A : Option Addr) (m c : Nat) (news : List Value) (hx : a.eval x = .slice A m c) (hl : news.length = m * size) (hnews : SrcAt w A news) (hA : ∀ a, A = some a → a.spot = none) (h1 : ∀ u ∈ news, u.oneCell' = true)
    (h63 : n + m ≤ maxLen) (hbytes : (n + m) * bytes ≤ 140737488355328) (hbase : base ≤ w.heap.size)
    (h : ∀ v' w', w'.ownsRow base e size v' (n + m) (xs ++ news) → w.grownBy w' v.ownBlock → (v'.ownBlock = v.ownBlock ∨ v'.ownBlock = some w.heap.size) → K (a.put o.dst v') w') :
    if Region.wanted o (yielded ops a.tmps) = true then Oper.wp P o a w K Q else E := by
  have hw : Region.wanted o (yielded ops a.tmps) = true := by simp [Region.wanted, hgd]
  rw [if_pos hw]
  exact wp_append_src s x t ho base e i z size bytes ht hi hz hsize hby hzs hsz v n xs hs hown A m c news hx hl hnews hA h1 h63 hbytes hbase h

/-- append onto a slice that is full: always a new row -/
theorem run_append_full (base : Nat) (t ty e : TypeId) (i : TypeInfo) (z : Value) (size bytes : Nat) (ht : P.underlying t = some (.slice e)) (hi : P.info? e = some i) (hz : i.zero = some z)
    (hsize : i.size = size) (hby : i.bytes = bytes) (hzs : z.cells.size = size) (hsz : 0 < size)
    (A : Option Addr) (k : Nat) (olds : List Value) (hlo : olds.length = k * size) (holds : SrcAt w A olds) (hA : ∀ a, A = some a → a.spot = none)
    (ad : Addr) (m c : Nat) (news : List Value) (hl : news.length = m * size) (hnews : ∀ j u, news[j]? = some u → w.cell? (ad.add j) = some u) (h1 : ∀ u ∈ news, u.oneCell' = true) (hm : 0 < m)
    (h63 : k + m ≤ maxLen) (hbytes : (k + m) * bytes ≤ 140737488355328) (hbase : base ≤ w.heap.size) :
    ∃ v' w', (Builtin.append_ #[t, t] ty #[.slice A k k, .slice (some ad) m c]).run P w = .ok v' w' ∧ w'.ownsRow base e size v' (k + m) (olds ++ news) ∧ w.grownBy w' none ∧ v'.ownBlock = some w.heap.size := by
  cases A with
  | none =>
    have ho : olds = [] := by
      cases olds with
      | nil => rfl
      | cons u olds => obtain ⟨b, off, h, _⟩ := holds 0 u rfl; cases h
    subst ho
    have hk : k = 0 := by
      rcases Nat.eq_zero_or_pos k with h | h
      · exact h
      · have := Nat.mul_pos h hsz; simp at hlo; omega
    subst hk
    obtain ⟨v', w', h2, h3, h4, h5, h6⟩ := run_append_own_at (P := P) w base t ty e i z size bytes ht hi hz hsize hby hzs hsz (.slice none 0 0) 0 [] (World.ownsRow_nil w base e size) ad m c news hl hnews h1 h63 hbytes hbase
    refine ⟨v', w', h2, h3, h4, ?_⟩
    rcases h6 with h6 | h6
    · exact absurd (h3.2) (by
        rintro (⟨h7, h8⟩ | ⟨g, cap, cur, h7, _⟩)
        · omega
        · rw [h7] at h6; cases h6)
    · exact h6
  | some a =>
    obtain ⟨b, off, spot⟩ := a
    have : spot = none := hA _ rfl
    subst this
    subst hsize
    subst hby
    have hr := run_append_grow (P := P) w t ty e i z ht hi hz ⟨b, off, none⟩ k k olds hlo (fun j u hj => by
      obtain ⟨b', off', e', hc⟩ := holds j u hj
      simp at e'
      obtain ⟨rfl, rfl⟩ := e'
      have hadd : (⟨b, off, none⟩ : Addr).add j = ⟨b, off + j, none⟩ := by unfold Addr.add; split <;> simp_all
      rw [hadd]
      exact hc) ad m c news hl hnews (by omega) (by simp only [maxLen] at h63; omega) (growslice_fits (by omega) hbytes)
    have hlen : (olds ++ news).length = (k + m) * i.size := by rw [List.length_append, hlo, hl, Nat.add_mul]
    refine ⟨_, _, hr, ⟨hlen, .inr ⟨w.heap.size, _, _, rfl, hbase, heap_alloc_new w.drew _, grownCap_ge w (k + m) k e, grownCap_le_maxLen w (k + m) k e h63, ?_, ?_⟩⟩, ⟨rfl, rfl, rfl, by simp, fun j hj _ => heap_alloc_old w.drew _ j hj⟩, rfl⟩
    · have := grownCap_ge w (k + m) k e
      simp only [Array.size_append, List.size_toArray, size_zeroCells, hzs, hlo, hl, ← Nat.add_mul]
      congr 1
      omega
    · simp only [Array.toList_append, List.append_assoc]
      rw [← List.append_assoc, ← hlen]
      exact List.take_left

theorem wpList_append_full {ops : Array Oper} {rest : List Oper} {o : Oper} {a : Act} {Q : Exit → Act → World → Prop} (hgd : o.guard = none) (s x : Operand) (t : TypeId)
    (ho : o.op = .call { callee := .builtin .append, args := #[s, x], argTypes := #[t, t] })
    (base : Nat) (e : TypeId) (i : TypeInfo) (z : Value) (size bytes : Nat) (ht : P.underlying t = some (.slice e)) (hi : P.info? e = some i) (hz : i.zero = some z)
    (hsize : i.size = size) (hby : i.bytes = bytes) (hzs : z.cells.size = size) (hsz : 0 < size)
    (A : Option Addr) (k : Nat) (hs : a.eval s = .slice A k k) (olds : List Value) (hlo : olds.length = k * size) (holds : SrcAt w A olds) (hA : ∀ a, A = some a → a.spot = none)
    (ad : Addr) (m c : Nat) (hx : a.eval x = .slice (some ad) m c) (news : List Value) (hl : news.length = m * size) (hnews : ∀ j u, news[j]? = some u → w.cell? (ad.add j) = some u) (h1 : ∀ u ∈ news, u.oneCell' = true) (hm : 0 < m)
    (h63 : k + m ≤ maxLen) (hbytes : (k + m) * bytes ≤ 140737488355328) (hbase : base ≤ w.heap.size)
    (h : ∀ v' w', w'.ownsRow base e size v' (k + m) (olds ++ news) → w.grownBy w' none → v'.ownBlock = some w.heap.size → wpList P ops Q rest (a.put o.dst v') w') : wpList P ops Q (o :: rest) a w :=
  wpList_plain hgd fun _ hK => by
    obtain ⟨v', w', hrun, h2, h3, h4⟩ := run_append_full (P := P) base t o.type e i z size bytes ht hi hz hsize hby hzs hsz A k olds hlo holds hA ad m c news hl hnews h1 hm h63 hbytes hbase
    unfold Oper.wp execOp
    simp only [ho, resolve, invoke, builtin, Sem.run_bind, Sem.run_pure, Result.andThen_ok, List.map_toArray, List.map_cons, List.map_nil, hs, hx, hrun]
    exact hK _ _ (h v' w' h2 h3 h4)

theorem run_sizeOf {w : World} {e : TypeId} {n : Nat} (hi : (P.info? e).map (·.size) = some n) : (Go.sizeOf e).run P w = .ok n w := sizeOf_of hi

/-- x[k:], as a source whose address is a letter -/
theorem wpList_slice_lo {ops : Array Oper} {rest : List Oper} {o : Oper} {a : Act} {Q : Exit → Act → World → Prop} (hgd : o.guard = none) (t : TypeId) (x y : Operand) (ho : o.op = .slice t x (some y) none none)
    (e : TypeId) (size : Nat) (ht : P.underlying t = some (.slice e)) (hi : (P.info? e).map (·.size) = some size) (p : Option Addr) (n c k : Nat) (kk : IntKind) (hx : a.eval x = .slice p n c) (hy : a.eval y = .int kk k) (hk : k ≤ n) (hn : n ≤ c)
    (cs : List Value) (hl : cs.length = n * size) (hcs : SrcAt w p cs) (hp : ∀ a, p = some a → a.spot = none)
    (h : ∀ A, SrcAt w A (cs.drop (k * size)) → (∀ a, A = some a → a.spot = none) → (∀ b off, A = some ⟨b, off, none⟩ → ∃ off', p = some ⟨b, off', none⟩) → wpList P ops Q rest (a.put o.dst (.slice A (n - k) (c - k))) w) : wpList P ops Q (o :: rest) a w :=
  wpList_plain hgd fun _ hK => by
    have he : P.elem t = e := by simp [Program.elem, ht]
    have ht' : P.underlying t = some (.slice (P.elem t)) := by rw [he]; exact ht
    unfold Oper.wp execOp
    simp only [ho, hx, hy, Option.map_some, Option.map_none, Sem.run_bind, Sem.run_pure, run_sliceAt_slice w t _ _ _ _ ht', run_slice_l w t p n c ht' kk k (by omega) (by omega), he, run_sizeOf hi, Result.andThen_ok, sliced, Int.toNat_natCast]
    refine hK _ _ (h _ ?_ ?_ ?_)
    · split
      · rename_i hck
        have : cs.drop (k * size) = [] := List.eq_nil_of_length_eq_zero (by rw [List.length_drop, hl, show n = k by omega]; omega)
        rw [this]
        exact SrcAt.nil _ _
      · cases p with
        | none =>
          have : cs = [] := by
            cases cs with
            | nil => rfl
            | cons u cs => obtain ⟨b, off, h, _⟩ := hcs 0 u rfl; cases h
          rw [this]
          simp only [List.drop_nil]
          exact SrcAt.nil _ _
        | some ad =>
          obtain ⟨b, off, spot⟩ := ad
          have : spot = none := hp _ rfl
          subst this
          have hadd : (⟨b, off, none⟩ : Addr).add (k * size) = ⟨b, off + k * size, none⟩ := by unfold Addr.add; split <;> simp_all
          simp only [Option.map_some, hadd]
          exact hcs.drop _
    · intro ad had
      split at had
      · exact hp ad had
      · cases p with
        | none => cases had
        | some ad' =>
          obtain ⟨b', off', spot⟩ := ad'
          have hs : spot = none := hp _ rfl
          subst hs
          have hadd : (⟨b', off', none⟩ : Addr).add (k * size) = ⟨b', off' + k * size, none⟩ := by unfold Addr.add; split <;> simp_all
          simp only [Option.map_some, hadd, Option.some.injEq] at had
          rw [← had]
    · intro b off hA
      split at hA
      · exact ⟨off, hA⟩
      · cases p with
        | none => cases hA
        | some ad' =>
          obtain ⟨b', off', spot⟩ := ad'
          have hs : spot = none := hp _ rfl
          subst hs
          have hadd : (⟨b', off', none⟩ : Addr).add (k * size) = ⟨b', off' + k * size, none⟩ := by unfold Addr.add; split <;> simp_all
          simp only [Option.map_some, hadd, Option.some.injEq, Addr.mk.injEq] at hA
          obtain ⟨rfl, _, _⟩ := hA
          exact ⟨off', rfl⟩

/-- x[:k:k] -/
theorem wpList_slice_full {ops : Array Oper} {rest : List Oper} {o : Oper} {a : Act} {Q : Exit → Act → World → Prop} (hgd : o.guard = none) (t : TypeId) (x y y' : Operand) (ho : o.op = .slice t x none (some y) (some y'))
    (e : TypeId) (size : Nat) (ht : P.underlying t = some (.slice e)) (hi : (P.info? e).map (·.size) = some size) (p : Option Addr) (n c k : Nat) (kk kk' : IntKind) (hx : a.eval x = .slice p n c) (hy : a.eval y = .int kk k) (hy' : a.eval y' = .int kk' k) (hk : k ≤ c)
    (hp : ∀ a, p = some a → a.spot = none)
    (h : wpList P ops Q rest (a.put o.dst (.slice p k k)) w) : wpList P ops Q (o :: rest) a w :=
  wpList_plain hgd fun _ hK => by
    have he : P.elem t = e := by simp [Program.elem, ht]
    have ht' : P.underlying t = some (.slice (P.elem t)) := by rw [he]; exact ht
    have hA : (if k = 0 then p else p.map (·.add (0 * size))) = p := by
      split
      · rfl
      · cases p with
        | none => rfl
        | some ad =>
          simp [Addr.add]
    unfold Oper.wp execOp
    simp only [ho, hx, hy, hy', Option.map_some, Option.map_none, Sem.run_bind, Sem.run_pure, run_sliceAt_slice w t _ _ _ _ ht', run_slice_hm w t p n c ht' kk kk' k k (by omega) (by omega) (by omega), he, run_sizeOf hi, Result.andThen_ok, sliced, Int.toNat_natCast, hA, Nat.sub_zero]
    exact hK _ _ h

end
end Go.Proofs.YtfoifdhcelcgiaaGreatDoor

/- ROWS THAT THE CALL OWNS, THEIR FROZEN RANGE HARMLESS ('[]byte(s)' leaves a mark behind its row); bytes as lists; texts. -/
namespace Go.Proofs.YtfoifdhcelcgiaaGreatDoor
open Go Go.RowKit

/-- the slice value v, of n elements of 'size' cells each, owns the cells xs; what may be frozen of its row are cells that stay -/
def Owns (w : World) (base : Nat) (e : TypeId) (size : Nat) (v : Value) (n : Nat) (xs : List Value) : Prop :=
  xs.length = n * size ∧ ((v = .slice none 0 0 ∧ n = 0) ∨ ∃ g cap cur fz, v = .slice (some ⟨g, 0, none⟩) n cap ∧ base ≤ g ∧ w.heap[g]? = some (.cells cur e fz) ∧ ((fz.2 ≤ n * size ∨ cur.size ≤ fz.1) ∧ (1 < size → fz = (0, 0))) ∧ n ≤ cap ∧ cap ≤ maxLen ∧ cur.size = cap * size ∧ cur.toList.take (n * size) = xs)

section
variable {P : Program} {w w' : World} {base : Nat} {e : TypeId} {size n cap : Nat} {v : Value} {p : Option Addr} {xs : List Value}

theorem Owns.of (h : w.ownsRow base e size v n xs) : Owns w base e size v n xs := by
  refine ⟨h.1, ?_⟩
  rcases h.2 with h0 | ⟨g, cap, cur, h1, h2, h3, h4⟩
  · exact .inl h0
  · exact .inr ⟨g, cap, cur, (0, 0), h1, h2, h3, ⟨.inl (Nat.zero_le _), fun _ => rfl⟩, h4⟩

theorem Owns.nil (w : World) (base : Nat) (e : TypeId) (size : Nat) : Owns w base e size (.slice none 0 0) 0 [] := ⟨by simp, .inl ⟨rfl, rfl⟩⟩

theorem Owns.form (h : Owns w base e size v n xs) : ∃ p cap, v = .slice p n cap := by
  rcases h.2 with ⟨rfl, rfl⟩ | ⟨g, cap, cur, fz, rfl, _⟩
  · exact ⟨_, _, rfl⟩
  · exact ⟨_, _, rfl⟩

theorem Owns.lt (h : Owns w base e size v n xs) {g : Nat} (hg : v.ownBlock = some g) : base ≤ g ∧ g < w.heap.size := by
  rcases h.2 with ⟨rfl, _⟩ | ⟨g', cap0, cur, fz, rfl, hg', hh, h1⟩
  · cases hg
  · simp [Value.ownBlock] at hg
    subst hg
    exact ⟨hg', (Array.getElem?_eq_some_iff.1 hh).1⟩

theorem Owns.keep (h : Owns w base e size v n xs) (hk : ∀ g, v.ownBlock = some g → w'.heap[g]? = w.heap[g]?) : Owns w' base e size v n xs := by
  refine ⟨h.1, ?_⟩
  rcases h.2 with h0 | ⟨g, cap0, cur, fz, hv, hg, hh, h1⟩
  · exact .inl h0
  · exact .inr ⟨g, cap0, cur, fz, hv, hg, (hk g (by rw [hv]; rfl)).trans hh, h1⟩

/-- a row of wide elements bears no frozen mark -/
theorem Owns.row (h : Owns w base e size v n xs) (hs : 1 < size) {g : Nat} (hg : v.ownBlock = some g) : ∃ cap cur, v = .slice (some ⟨g, 0, none⟩) n cap ∧ w.heap[g]? = some (.cells cur e (0, 0)) ∧ cur.size = cap * size ∧ n ≤ cap ∧ cur.toList.take (n * size) = xs := by
  rcases h.2 with ⟨rfl, _⟩ | ⟨g', cap0, cur, fz, rfl, _, hh, h1, h2, h3, h4, h5⟩
  · simp [Value.ownBlock] at hg
  · have e1 : g' = g := by simpa [Value.ownBlock] using hg
    subst e1
    rw [h1.2 hs] at hh
    exact ⟨cap0, cur, rfl, hh, h4, h2, h5⟩
theorem Owns.below {B : Nat} (h : Owns w base e size v n xs) (hb : Below B w w') (hB : w.heap.size ≤ B) : Owns w' base e size v n xs :=
  h.keep fun g hg => hb.block g (Nat.lt_of_lt_of_le (h.lt hg).2 hB)

theorem Owns.under (h : Owns w base e size v n xs) (hb : Below w.heap.size w w') : Owns w' base e size v n xs := h.below hb (Nat.le_refl _)

theorem Owns.alloc (h : Owns w base e size v n xs) (o : Obj) : Owns (w.alloc o) base e size v n xs := h.under ((Below.refl _ w).alloc (Nat.le_refl _) o)

theorem Owns.drew (h : Owns w base e size v n xs) : Owns w.drew base e size v n xs := h

theorem Owns.down {b' : Nat} (h : Owns w base e size v n xs) (hb : b' ≤ base) : Owns w b' e size v n xs := by
  refine ⟨h.1, ?_⟩
  rcases h.2 with h0 | ⟨g, cap, cur, fz, h1, h2, h3⟩
  · exact .inl h0
  · exact .inr ⟨g, cap, cur, fz, h1, Nat.le_trans hb h2, h3⟩

theorem Owns.src (h : Owns w base e size (.slice p n cap) n xs) : SrcAt w p xs := fun j u hj => by
  rcases h.2 with ⟨_, h0⟩ | ⟨g, cap0, cur, fz, hv, hg, hh, h1, h2, h3, h4, h5⟩
  · have := h.1
    rw [h0, Nat.zero_mul] at this
    rw [List.eq_nil_of_length_eq_zero this] at hj
    simp at hj
  · simp at hv
    obtain ⟨rfl, rfl⟩ := hv
    refine ⟨g, 0, rfl, ?_⟩
    rw [cell_of_row _ _ _ _ _ _ hh, Nat.zero_add]
    rw [← h5] at hj
    rw [List.getElem?_take] at hj
    split at hj
    · simpa using hj
    · cases hj

theorem Owns.at (h : Owns w base e size (.slice p n cap) n xs) {b off : Nat} (hp : p = some ⟨b, off, none⟩) : base ≤ b ∧ b < w.heap.size ∧ off = 0 ∧ n ≤ cap := by
  rcases h.2 with ⟨hv, _⟩ | ⟨g, cap0, cur, fz, hv, hg, hh, h1, h2, h3, h4, h5⟩
  · simp at hv
    rw [hv.1] at hp
    cases hp
  · simp at hv
    obtain ⟨e1, e2⟩ := hv
    rw [e1] at hp
    simp at hp
    obtain ⟨rfl, rfl⟩ := hp
    exact ⟨hg, (Array.getElem?_eq_some_iff.1 hh).1, rfl, by omega⟩

theorem Owns.cap_le (h : Owns w base e size (.slice p n cap) n xs) : n ≤ cap ∧ cap ≤ maxLen := by
  rcases h.2 with ⟨hv, h0⟩ | ⟨g, cap0, cur, fz, hv, hg, hh, h1, h2, h3, h4, h5⟩
  · simp at hv
    obtain ⟨_, _, rfl⟩ := hv
    exact ⟨by omega, by unfold maxLen; omega⟩
  · simp at hv
    obtain ⟨_, rfl⟩ := hv
    exact ⟨h2, h3⟩

/-- its place is plain -/
theorem Owns.spot (h : Owns w base e size (.slice p n cap) n xs) : ∀ a, p = some a → a.spot = none := fun a ha => by
  rcases h.2 with ⟨hv, h0⟩ | ⟨g, cap0, cur, fz, hv, _⟩
  · simp at hv
    rw [hv.1] at ha
    cases ha
  · simp at hv
    rw [hv.1] at ha
    cases ha
    rfl

theorem run_storeCells_atG (P : Program) (g o : Nat) (t : TypeId) (fz : Nat × Nat) : ∀ (vs : List Value) (i : Nat) (cur : Array Value) (w : World), w.heap[g]? = some (.cells cur t fz) → (fz.2 ≤ o + i ∨ cur.size ≤ fz.1) → o + i + vs.length ≤ cur.size → (∀ v ∈ vs, v.oneCell' = true) →
    (storeCells ⟨g, o, none⟩ vs i).run P w = .ok () (w.setRow g (cur.toList.take (o + i) ++ vs ++ cur.toList.drop (o + i + vs.length)).toArray)
  | [], i, cur, w, hg, _, _, _ => by
    simp only [storeCells, List.append_nil, List.length_nil, Nat.add_zero, List.take_append_drop, Array.toArray_toList]
    rw [setRow_self w g cur t fz hg]
    rfl
  | v :: rest, i, cur, w, hg, hfz, hl, h1 => by
    have hi : o + i < cur.size := by simp at hl; omega
    have hadd : (⟨g, o, none⟩ : Addr).add i = ⟨g, o + i, none⟩ := by unfold Addr.add; split <;> simp_all
    have hcell : w.cell? ⟨g, o + i, none⟩ = some cur[o + i] := by simp [World.cell?, hg, hi]
    have hfro : w.frozen? ⟨g, o + i, none⟩ = false := by
      obtain ⟨lo, hi'⟩ := fz
      simp only [World.frozen?, hg, Bool.and_eq_false_iff, decide_eq_false_iff_not]
      simp only at hfz
      omega
    have hst : (store ((⟨g, o, none⟩ : Addr).add i) v).run P w = .ok () (w.setRow g (cur.setIfInBounds (o + i) v)) := by
      rw [hadd, run_store P w _ v _ (h1 v (by simp)), hcell]
      simp [hfro, setCell_eq_setRow w g (o + i) cur t fz v hg]
    have ih := run_storeCells_atG P g o t fz rest (i + 1) (cur.setIfInBounds (o + i) v) (w.setRow g (cur.setIfInBounds (o + i) v)) (setRow_heap w g cur _ t _ hg) (by simp; omega) (by simp at hl ⊢; omega) (fun x hx => h1 x (by simp [hx]))
    simp only [storeCells, Sem.run_bind, hst, Result.andThen_ok, ih, setRow_setRow]
    congr 3
    have e := list_seg_step cur.toList (o + i) v rest (by simp at hl ⊢; omega)
    simpa [Array.toList_setIfInBounds, Nat.add_assoc] using e

/-- append with any source: a list of cells that lies somewhere -/
theorem run_append_G (base : Nat) (t ty e : TypeId) (i : TypeInfo) (z : Value) (size bytes : Nat) (ht : P.underlying t = some (.slice e)) (hi : P.info? e = some i) (hz : i.zero = some z)
    (hsize : i.size = size) (hby : i.bytes = bytes) (hzs : z.cells.size = size) (hsz : 0 < size)
    (v : Value) (n : Nat) (xs : List Value) (hown : Owns w base e size v n xs)
    (A : Option Addr) (m c : Nat) (news : List Value) (hl : news.length = m * size) (hnews : SrcAt w A news) (hA : ∀ a, A = some a → a.spot = none) (h1 : ∀ u ∈ news, u.oneCell' = true)
    (h63 : n + m ≤ maxLen) (hbytes : (n + m) * bytes ≤ 140737488355328) (hbase : base ≤ w.heap.size) :
    ∃ v' w', (Builtin.append_ #[t, t] ty #[v, .slice A m c]).run P w = .ok v' w' ∧ Owns w' base e size v' (n + m) (xs ++ news) ∧ w.grownBy w' v.ownBlock ∧ (v'.ownBlock = v.ownBlock ∨ v'.ownBlock = some w.heap.size) := by
  rcases hown.2 with ⟨rfl, rfl⟩ | ⟨g, cap, cur, fz, rfl, hbg, hg, hfz, hnc, hcm, hcs, htake⟩
  · obtain ⟨v', w', r1, r2, r3, r4⟩ := run_append_src (P := P) base t ty e i z size bytes ht hi hz hsize hby hzs hsz (.slice none 0 0) 0 xs ⟨hown.1, .inl ⟨rfl, rfl⟩⟩ A m c news hl hnews hA h1 h63 hbytes hbase
    exact ⟨v', w', r1, Owns.of r2, r3, r4⟩
  · have hn : SrcAt w (some ⟨g, 0, none⟩) xs := hown.src
    subst hsize
    subst hby
    have hsmall : n + m ≤ 9223372036854775807 := by simp only [maxLen] at h63; omega
    have hlen : (xs ++ news).length = (n + m) * i.size := by rw [List.length_append, hown.1, hl, Nat.add_mul]
    cases A with
    | none =>
      have hne : news = [] := by
        cases news with
        | nil => rfl
        | cons u news => obtain ⟨b, off, h, _⟩ := hnews 0 u rfl; cases h
      subst hne
      have hm : m = 0 := by
        rcases Nat.eq_zero_or_pos m with h | h
        · exact h
        · have := Nat.mul_pos h hsz; simp at hl; omega
      subst hm
      refine ⟨_, w, ?_, by simpa using hown, World.grownBy.refl w _, .inl rfl⟩
      simp [Builtin.append_, run_underlying ht, sizeOf, typeInfo, hi, Builtin.lenOf, Builtin.firstCells, hnc, storeCells]
    | some a =>
      obtain ⟨b, off, spot⟩ := a
      have : spot = none := hA _ rfl
      subst this
      have hnews' : ∀ j u, news[j]? = some u → w.cell? ((⟨b, off, none⟩ : Addr).add j) = some u := fun j u hj => by
        obtain ⟨b', off', e', hc⟩ := hnews j u hj
        simp at e'
        obtain ⟨rfl, rfl⟩ := e'
        have hadd : (⟨b, off, none⟩ : Addr).add j = ⟨b, off + j, none⟩ := by unfold Addr.add; split <;> simp_all
        rw [hadd]
        exact hc
      by_cases hroom : n + m ≤ cap
      · have hfit : n * i.size + news.length ≤ cur.size := by rw [hl, hcs, ← Nat.add_mul]; exact Nat.mul_le_mul_right _ hroom
        have hf := run_firstCells_some (P := P) w i.size m ⟨b, off, none⟩ m c news hl hnews'
        have hst := run_storeCells_atG P g (n * i.size) e fz news 0 cur w hg (by simpa using hfz.1) (by simpa using hfit) h1
        simp only [Nat.add_zero] at hst
        have hr : (Builtin.append_ #[t, t] ty #[.slice (some ⟨g, 0, none⟩) n cap, .slice (some ⟨b, off, none⟩) m c]).run P w =
            .ok (.slice (some ⟨g, 0, none⟩) (n + m) cap) (w.setRow g (cur.toList.take (n * i.size) ++ news ++ cur.toList.drop (n * i.size + news.length)).toArray) := by
          simp [Builtin.append_, run_underlying ht, sizeOf, typeInfo, hi, Builtin.lenOf, hroom, hf, Addr.add_lit, hst]
        have hsz' : (cur.toList.take (n * i.size) ++ news ++ cur.toList.drop (n * i.size + news.length)).toArray.size = cur.size := by
          simp only [List.size_toArray, List.length_append, List.length_take, List.length_drop, Array.length_toList]
          omega
        refine ⟨_, _, hr, ⟨hlen, .inr ⟨g, cap, _, fz, rfl, hbg, setRow_heap w g cur _ e _ hg, ?_, hroom, hcm, ?_, ?_⟩⟩, ⟨rfl, rfl, rfl, by simp, fun k _ hk => setRow_other w g k _ (fun e => hk (by simp [Value.ownBlock, e]))⟩, .inl rfl⟩
        · rw [hsz']
          refine ⟨?_, hfz.2⟩
          rcases hfz.1 with h | h
          · exact .inl (Nat.le_trans h (Nat.mul_le_mul_right _ (Nat.le_add_right n m)))
          · exact .inr h
        · rw [hsz', hcs]
        · rw [htake, ← hlen]
          exact List.take_left
      · have holds : ∀ j u, xs[j]? = some u → w.cell? ((⟨g, 0, none⟩ : Addr).add j) = some u := fun j u hj => by
          obtain ⟨b', off', e', hc⟩ := hn j u hj
          simp at e'
          obtain ⟨rfl, rfl⟩ := e'
          have hadd : (⟨g, 0, none⟩ : Addr).add j = ⟨g, 0 + j, none⟩ := by unfold Addr.add; split <;> simp_all
          rw [hadd]
          exact hc
        have hr := run_append_grow (P := P) w t ty e i z ht hi hz ⟨g, 0, none⟩ n cap xs hown.1 holds ⟨b, off, none⟩ m c news hl hnews' (by omega) (by omega) (growslice_fits (by omega) hbytes)
        have hge := grownCap_ge w (n + m) cap e
        have hcm2 : grownCap w (n + m) cap e ≤ maxLen := grownCap_le_maxLen w (n + m) cap e h63
        refine ⟨_, _, hr, ⟨hlen, .inr ⟨w.heap.size, _, _, (0, 0), rfl, hbase, heap_alloc_new w.drew _, ⟨.inl (Nat.zero_le _), fun _ => rfl⟩, hge, hcm2, ?_, ?_⟩⟩, ⟨rfl, rfl, rfl, by simp, fun k hk _ => heap_alloc_old w.drew _ k hk⟩, .inr rfl⟩
        · simp only [Array.size_append, List.size_toArray, size_zeroCells, hzs, hown.1, hl, ← Nat.add_mul]
          congr 1
          omega
        · simp only [Array.toList_append, List.append_assoc]
          rw [← List.append_assoc, ← hlen]
          exact List.take_left

theorem wpList_append_G {ops : Array Oper} {rest : List Oper} {o : Oper} {a : Act} {Q : Exit → Act → World → Prop} (hgd : o.guard = none) (s x : Operand) (t : TypeId)
    (ho : o.op = .call { callee := .builtin .append, args := #[s, x], argTypes := #[t, t] })
    (base : Nat) (e : TypeId) (i : TypeInfo) (z : Value) (size bytes : Nat) (ht : P.underlying t = some (.slice e)) (hi : P.info? e = some i) (hz : i.zero = some z)
    (hsize : i.size = size) (hby : i.bytes = bytes) (hzs : z.cells.size = size) (hsz : 0 < size)
    (v : Value) (n : Nat) (xs : List Value) (hs : a.eval s = v) (hown : Owns w base e size v n xs)
    (A : Option Addr) (m c : Nat) (news : List Value) (hx : a.eval x = .slice A m c) (hl : news.length = m * size) (hnews : SrcAt w A news) (hA : ∀ a, A = some a → a.spot = none) (h1 : ∀ u ∈ news, u.oneCell' = true)
    (h63 : n + m ≤ maxLen) (hbytes : (n + m) * bytes ≤ 140737488355328) (hbase : base ≤ w.heap.size)
    (h : ∀ v' w', Owns w' base e size v' (n + m) (xs ++ news) → w.grownBy w' v.ownBlock → (v'.ownBlock = v.ownBlock ∨ v'.ownBlock = some w.heap.size) → wpList P ops Q rest (a.put o.dst v') w') : wpList P ops Q (o :: rest) a w :=
  wpList_plain hgd fun _ hK => by
    obtain ⟨v', w', hrun, h2, h3, h4⟩ := run_append_G (P := P) base t o.type e i z size bytes ht hi hz hsize hby hzs hsz v n xs hown A m c news hl hnews hA h1 h63 hbytes hbase
    unfold Oper.wp execOp
    simp only [ho, resolve, invoke, builtin, Sem.run_bind, Sem.run_pure, Result.andThen_ok, List.map_toArray, List.map_cons, List.map_nil, hs, hx, hrun]
    exact hK _ _ (h v' w' h2 h3 h4)

/-! ### bytes, and texts -/
abbrev bv (b : UInt8) : Value := .int .u8 b.toNat
def bcs (l : List UInt8) : List Value := l.map bv
abbrev txt (l : List UInt8) : Value := .string ⟨l.toArray⟩

theorem bcs_length (l : List UInt8) : (bcs l).length = l.length := by simp [bcs]
theorem bcs_append (a b : List UInt8) : bcs (a ++ b) = bcs a ++ bcs b := by simp [bcs]
theorem bcs_one (l : List UInt8) : ∀ u ∈ bcs l, u.oneCell' = true := fun u hu => by
  obtain ⟨b, _, rfl⟩ := List.mem_map.1 hu
  rfl
theorem bcs_get {l : List UInt8} {j : Nat} (h : j < l.length) : (bcs l)[j]? = some (bv (l.getD j 0)) := by simp [bcs, h, List.getD]
theorem txt_inj {a b : List UInt8} (h : txt a = txt b) : a = b := by
  unfold txt at h
  simpa using h
theorem txt_of (s : ByteArray) : ∃ l : List UInt8, s = ⟨l.toArray⟩ := ⟨s.data.toList, by simp⟩
theorem size_txt (l : List UInt8) : (ByteArray.mk l.toArray).size = l.length := by simp [ByteArray.size]
theorem strCells_txt (l : List UInt8) : Lib.strCells ⟨l.toArray⟩ = bcs l := by simp [Lib.strCells, bcs]

/-- append(b, s...), s a text -/
theorem run_append_txt (base : Nat) (t u ty e : TypeId) (i : TypeInfo) (ht : P.underlying t = some (.slice e)) (hu : P.underlying u = some .string) (hi : P.info? e = some i) (hz : i.zero = some (.int .u8 0))
    (hsize : i.size = 1) (hby : i.bytes = 1)
    (v : Value) (n : Nat) (xs : List Value) (hown : Owns w base e 1 v n xs) (l : List UInt8)
    (h63 : n + l.length ≤ maxLen) (hbytes : n + l.length ≤ 140737488355328) (hbase : base ≤ w.heap.size) :
    ∃ v' w', (Builtin.append_ #[t, u] ty #[v, txt l]).run P w = .ok v' w' ∧ Owns w' base e 1 v' (n + l.length) (xs ++ bcs l) ∧ w.grownBy w' v.ownBlock := by
  have hsm := size_txt l
  have hxl : xs.length = n := by simpa using hown.1
  have hlen : (xs ++ bcs l).length = (n + l.length) * 1 := by rw [List.length_append, hxl, bcs_length, Nat.mul_one]
  rcases hown.2 with ⟨rfl, rfl⟩ | ⟨g, cap, cur, fz, rfl, hbg, hg, hfz, hnc, hcm, hcs, htake⟩
  · obtain ⟨v', w', r1, r2, r3, r4⟩ := Lib.run_append_own_string (P := P) w base t u ty e i ht hu hi hz hsize hby (.slice none 0 0) 0 xs ⟨hown.1, .inl ⟨rfl, rfl⟩⟩ ⟨l.toArray⟩ (by omega) (by omega) hbase
    rw [hsm, strCells_txt] at r2
    exact ⟨v', w', r1, Owns.of r2, r3⟩
  · have hn : SrcAt w (some ⟨g, 0, none⟩) xs := hown.src
    by_cases hroom : n + l.length ≤ cap
    · have hcs' : cur.size = cap := by simpa using hcs
      have hf := Lib.run_firstCells_string (P := P) w 1 ⟨l.toArray⟩
      have hst := run_storeCells_atG P g n e fz (bcs l) 0 cur w hg (by simpa using hfz.1) (by rw [bcs_length]; omega) (bcs_one l)
      rw [hsm, strCells_txt] at hf
      simp only [Nat.add_zero, bcs_length] at hst
      have hr : (Builtin.append_ #[t, u] ty #[.slice (some ⟨g, 0, none⟩) n cap, txt l]).run P w =
          .ok (.slice (some ⟨g, 0, none⟩) (n + l.length) cap) (w.setRow g (cur.toList.take n ++ bcs l ++ cur.toList.drop (n + l.length)).toArray) := by
        simp [txt, Builtin.append_, run_underlying ht, run_underlying hu, sizeOf, typeInfo, hi, hsize, Builtin.lenOf, hsm, hroom, hf, Addr.add_lit, hst]
      have hsz' : (cur.toList.take n ++ bcs l ++ cur.toList.drop (n + l.length)).toArray.size = cur.size := by
        simp only [List.size_toArray, List.length_append, List.length_take, List.length_drop, Array.length_toList, bcs_length]
        omega
      refine ⟨_, _, hr, ⟨hlen, .inr ⟨g, cap, _, fz, rfl, hbg, setRow_heap w g cur _ e _ hg, ?_, hroom, hcm, ?_, ?_⟩⟩, ⟨rfl, rfl, rfl, by simp, fun k _ hk => setRow_other w g k _ (fun e => hk (by simp [Value.ownBlock, e]))⟩⟩
      · rw [hsz']; exact ⟨by omega, hfz.2⟩
      · rw [hsz', hcs]
      · have ht' : cur.toList.take n = xs := by simpa using htake
        rw [ht', ← hlen]
        exact List.take_left
    · have holds : ∀ j u, xs[j]? = some u → w.cell? ((⟨g, 0, none⟩ : Addr).add j) = some u := fun j u hj => by
        obtain ⟨b', off', e', hc⟩ := hn j u hj
        simp at e'
        obtain ⟨rfl, rfl⟩ := e'
        have hadd : (⟨g, 0, none⟩ : Addr).add j = ⟨g, 0 + j, none⟩ := by unfold Addr.add; split <;> simp_all
        rw [hadd]
        exact hc
      have hr := Lib.run_append_grow_string (P := P) w t u ty e i (.int .u8 0) ht hu hi hz ⟨g, 0, none⟩ n cap xs (by rw [hsize]; simpa using hxl) holds ⟨l.toArray⟩ (by omega) (by simp only [maxLen] at h63; omega) (by rw [hby]; exact growslice_fits (by omega) (by omega))
      rw [hsm, strCells_txt] at hr
      have hge := grownCap_ge w (n + l.length) cap e
      have hcm2 : grownCap w (n + l.length) cap e ≤ maxLen := grownCap_le_maxLen w (n + l.length) cap e h63
      refine ⟨_, _, hr, ⟨hlen, .inr ⟨w.heap.size, _, _, (0, 0), rfl, hbase, heap_alloc_new w.drew _, ⟨.inl (Nat.zero_le _), fun _ => rfl⟩, hge, hcm2, ?_, ?_⟩⟩, ⟨rfl, rfl, rfl, by simp, fun k hk _ => heap_alloc_old w.drew _ k hk⟩⟩
      · have hz1 : (Value.int IntKind.u8 0).cells.size = 1 := rfl
        simp only [Array.size_append, List.size_toArray, size_zeroCells, hz1, hxl, bcs_length]
        omega
      · simp only [Array.toList_append, List.append_assoc]
        rw [← List.append_assoc, ← hlen]
        exact List.take_left

theorem wpList_append_txt {ops : Array Oper} {rest : List Oper} {o : Oper} {a : Act} {Q : Exit → Act → World → Prop} (hgd : o.guard = none) (sl x : Operand) (t u : TypeId)
    (ho : o.op = .call { callee := .builtin .append, args := #[sl, x], argTypes := #[t, u] })
    (base : Nat) (e : TypeId) (i : TypeInfo) (ht : P.underlying t = some (.slice e)) (hu : P.underlying u = some .string) (hi : P.info? e = some i) (hz : i.zero = some (.int .u8 0))
    (hsize : i.size = 1) (hby : i.bytes = 1)
    (v : Value) (n : Nat) (xs : List Value) (hs : a.eval sl = v) (hown : Owns w base e 1 v n xs) (l : List UInt8) (hx : a.eval x = txt l)
    (h63 : n + l.length ≤ maxLen) (hbytes : n + l.length ≤ 140737488355328) (hbase : base ≤ w.heap.size)
    (h : ∀ v' w', Owns w' base e 1 v' (n + l.length) (xs ++ bcs l) → w.grownBy w' v.ownBlock → wpList P ops Q rest (a.put o.dst v') w') : wpList P ops Q (o :: rest) a w := by
  refine wpList_plain hgd fun K hK => ?_
  obtain ⟨v', w', hr, h2, h3⟩ := run_append_txt (P := P) base t u o.type e i ht hu hi hz hsize hby v n xs hown l h63 hbytes hbase
  unfold Oper.wp execOp
  simp only [ho, resolve, invoke, builtin, Sem.run_bind, Sem.run_pure, Result.andThen_ok, List.map_toArray, List.map_cons, List.map_nil, hs, hx, hr]
  exact hK _ _ (h v' w' h2 h3)

/-- string(b) -/
theorem run_bytes_txt (w : World) (src dst e : TypeId) (hs : P.underlying src = some (.slice e)) (he : P.underlying e = some (.int .u8)) (hd : P.underlying dst = some .string) (A : Option Addr) (l : List UInt8) (c : Nat) (h : SrcAt w A (bcs l)) (hA : ∀ a, A = some a → a.spot = none) :
    (convert src dst (.slice A l.length c)).run P w = .ok (txt l) w := by
  rw [run_convert_bytes_string w src dst e A l.length c hs he hd]
  cases A with
  | none =>
    have : l = [] := by
      cases l with
      | nil => rfl
      | cons b l => obtain ⟨b', off, h, _⟩ := h 0 (bv b) rfl; cases h
    subst this
    simp [Conv.bytesToString, txt]
    rfl
  | some a =>
    obtain ⟨b, off, spot⟩ := a
    have : spot = none := hA _ rfl
    subst this
    have hl : (loadCells ⟨b, off, none⟩ l.length).run P w = .ok ((l.map fun x => (x.toNat : Int)).map (Value.int .u8)).toArray w := by
      have e : (l.map fun x => (x.toNat : Int)).map (Value.int .u8) = bcs l := by simp [bcs, bv]
      rw [e, ← bcs_length l]
      exact run_loadCells_list (P := P) w ⟨b, off, none⟩ (bcs l) (fun j v hv => by
        obtain ⟨b', off', e', hc⟩ := h j v hv
        simp at e'
        obtain ⟨rfl, rfl⟩ := e'
        have hadd : (⟨b, off, none⟩ : Addr).add j = ⟨b, off + j, none⟩ := by unfold Addr.add; split <;> simp_all
        rw [hadd]
        exact hc)
    rw [run_bytesToString w ⟨b, off, none⟩ l.length c _ hl]
    congr 1
    rw [foldl_push_bytes]
    unfold txt
    congr 2
    have : (fun n : Int => UInt8.ofNat n.toNat) ∘ (fun x : UInt8 => (x.toNat : Int)) = id := by funext x; simp
    simp [this]

theorem wpList_bytes_txt {ops : Array Oper} {rest : List Oper} {o : Oper} {a : Act} {Q : Exit → Act → World → Prop} (hgd : o.guard = none) (src dst : TypeId) (x : Operand) (ho : o.op = .convert src dst x)
    (e : TypeId) (hs : P.underlying src = some (.slice e)) (he : P.underlying e = some (.int .u8)) (hd : P.underlying dst = some .string) (A : Option Addr) (l : List UInt8) (m c : Nat) (hx : a.eval x = .slice A m c) (hm : m = l.length) (h : SrcAt w A (bcs l)) (hA : ∀ a, A = some a → a.spot = none)
    (hK : wpList P ops Q rest (a.put o.dst (txt l)) w) : wpList P ops Q (o :: rest) a w := by
  subst hm
  refine wpList_plain hgd fun K hK' => ?_
  unfold Oper.wp execOp
  simp only [ho, hx, Sem.run_bind, run_bytes_txt w src dst e hs he hd A l c h hA, Sem.run_pure, Result.andThen_ok]
  exact hK' _ _ hK

/-- []byte(s) -/
theorem owns_bytesWorld (w : World) (e : TypeId) (l : List UInt8) (h : l.length ≤ maxLen) : Owns (Lib.bytesWorld w e ⟨l.toArray⟩) w.heap.size e 1 (.slice (some ⟨w.heap.size, 0, none⟩) l.length (grownCap w l.length 0 e)) l.length (bcs l) := by
  have hsm := size_txt l
  have hnew := Lib.bytesWorld_at_new w e ⟨l.toArray⟩
  have hge := grownCap_ge w l.length 0 e
  refine ⟨by rw [bcs_length, Nat.mul_one], .inr ⟨w.heap.size, _, _, _, rfl, Nat.le_refl _, hnew, ⟨.inr (Nat.le_refl _), fun h1 => absurd h1 (by omega)⟩, hge, grownCap_le_maxLen w l.length 0 e h, ?_, ?_⟩⟩
  · simp [Lib.bytesCells, hsm]
    try omega
  · simp [Lib.bytesCells, hsm, bcs]

theorem below_bytesWorld (w : World) (e : TypeId) (s : ByteArray) : Below w.heap.size w (Lib.bytesWorld w e s) :=
  ⟨rfl, rfl, rfl, by rw [Lib.bytesWorld_size]; omega, fun i hi => Lib.bytesWorld_at_old w e s i hi⟩

theorem wpList_txt_bytes {ops : Array Oper} {rest : List Oper} {o : Oper} {a : Act} {Q : Exit → Act → World → Prop} (hgd : o.guard = none) (src dst : TypeId) (x : Operand) (ho : o.op = .convert src dst x)
    (e : TypeId) (hs : P.underlying src = some .string) (hd : P.underlying dst = some (.slice e)) (he : P.underlying e = some (.int .u8)) (l : List UInt8) (hx : a.eval x = txt l) (hl : l.length ≤ maxLen)
    (hK : ∀ cap w', Owns w' w.heap.size e 1 (.slice (some ⟨w.heap.size, 0, none⟩) l.length cap) l.length (bcs l) → Below w.heap.size w w' → w'.heap.size = w.heap.size + 1 → wpList P ops Q rest (a.put o.dst (.slice (some ⟨w.heap.size, 0, none⟩) l.length cap)) w') : wpList P ops Q (o :: rest) a w := by
  refine wpList_plain hgd fun K hK' => ?_
  have hr := Lib.run_convert_string_bytes (P := P) w src dst e ⟨l.toArray⟩ hs hd he
  rw [size_txt] at hr
  unfold Oper.wp execOp
  simp only [ho, hx, txt, Sem.run_bind, hr, Sem.run_pure, Result.andThen_ok]
  exact hK' _ _ (hK _ _ (owns_bytesWorld w e l hl) (below_bytesWorld w e _) (Lib.bytesWorld_size w e _))
end
end Go.Proofs.YtfoifdhcelcgiaaGreatDoor

/- PLAIN: numbers, texts and lists as bytes. -/
namespace Go.Proofs.YtfoifdhcelcgiaaGreatDoor

def digsF : Nat → Nat → List UInt8
  | 0, _ => []
  | k + 1, n => if n = 0 then [] else digsF k (n / 256) ++ [UInt8.ofNat (n % 256)]

/-- a number's bytes, the great ones ahead -/
def digs (n : Nat) : List UInt8 := digsF 8 n

/-- a number: how many bytes it has, and they -/
def numB (n : Nat) : List UInt8 := UInt8.ofNat (digs n).length :: digs n

/-- texts, with their number ahead, each with its length ahead -/
def listB (l : List (List UInt8)) : List UInt8 := numB l.length ++ l.flatMap fun s => numB s.length ++ s

theorem digsF_more : ∀ (k n : Nat), n < 256 ^ k → digsF (k + 1) n = digsF k n
  | 0, n, h => by simp at h; subst h; simp [digsF]
  | k + 1, n, h => by
    rw [digsF]
    conv => rhs; rw [digsF]
    split
    · rfl
    · rw [digsF_more k (n / 256) (by rw [Nat.pow_succ] at h; omega)]

theorem digs_zero : digs 0 = [] := by simp [digs, digsF]

theorem digs_step {n : Nat} (h : n < 18446744073709551616) (h0 : n ≠ 0) : digs n = digs (n / 256) ++ [UInt8.ofNat (n % 256)] := by
  unfold digs
  rw [← digsF_more 8 n h]
  rw [digsF, if_neg h0]

theorem length_digsF : ∀ (k n : Nat), (digsF k n).length ≤ k
  | 0, _ => by simp [digsF]
  | k + 1, n => by
    rw [digsF]
    split
    · simp
    · have := length_digsF k (n / 256)
      simp; omega

theorem length_digs (n : Nat) : (digs n).length ≤ 8 := length_digsF 8 n
theorem length_numB (n : Nat) : (numB n).length ≤ 9 := by have := length_digs n; simp [numB]; omega
theorem numB_pos (n : Nat) : 1 ≤ (numB n).length := by simp [numB]

theorem length_listB (l : List (List UInt8)) : (listB l).length ≤ 9 + 9 * l.length + (l.map List.length).sum := by
  unfold listB
  have h0 := length_numB l.length
  rw [List.length_append]
  have : ∀ l : List (List UInt8), (l.flatMap fun s => numB s.length ++ s).length ≤ 9 * l.length + (l.map List.length).sum := fun l => by
    induction l with
    | nil => simp
    | cons a l ih =>
      have := length_numB a.length
      simp only [List.flatMap_cons, List.length_append, List.length_cons, List.map_cons, List.sum_cons]
      omega
  have := this l
  omega
end Go.Proofs.YtfoifdhcelcgiaaGreatDoor

/- pack.Num, pack.List: a number, and texts, as bytes. -/
namespace Go.Proofs.YtfoifdhcelcgiaaGreatDoor
open Go Go.RowKit

theorem u8Info : (Tryz.prog.info? 5).map (fun i => (i.zero, i.size, i.bytes)) = some (some (.int .u8 0), 1, 1) := by kernel_rfl

theorem byte_of (k : Nat) : Value.int .u8 ((k : Int) % 256) = bv (UInt8.ofNat (k % 256)) := by
  unfold bv
  congr 1
  simp

/-- append(b, x), x a byte: the arm of the walk -/
theorem wpList_byte {w : World} {ops : Array Oper} {rest : List Oper} {o : Oper} {a : Act} {Q : Exit → Act → World → Prop} (s x : Operand)
    (base : Nat) (v : Value) (l : List UInt8) (c : UInt8) (W : World) (u : Value) (hu : u = bv c) (hgd : o.guard = none)
    (ho : o.op = .call { callee := .builtin .append, args := #[s, x], argTypes := #[108, 108] })
    (hw : w = W.alloc (.cells #[u] 5)) (hs : a.eval s = v) (hown : Owns W base 5 1 v l.length (bcs l))
    (hx : a.eval x = .slice (some ⟨W.heap.size, 0, none⟩) 1 1) (h63 : l.length + 1 ≤ 140737488355328) (hbase : base ≤ W.heap.size)
    (h : ∀ v' w', Owns w' base 5 1 v' (l ++ [c]).length (bcs (l ++ [c])) → w.grownBy w' v.ownBlock → wpList Tryz.prog ops Q rest (a.put o.dst v') w') : wpList Tryz.prog ops Q (o :: rest) a w := by
  obtain ⟨i0, hi, hz0, hz1, hz2⟩ := info_parts u8Info
  subst hw hu
  refine wpList_append_G hgd s x 108 ho base 5 i0 (.int .u8 0) 1 1 Tryz.underlying108 hi hz0 hz1 hz2 rfl (by decide) v l.length (bcs l) hs (hown.alloc _) _ 1 1 [bv c] hx rfl (src_new W [bv c] _) (fun a ha => by cases ha; rfl) (by simp [bv, Value.oneCell']) (by unfold maxLen; omega) (by omega) (by simp; omega) ?_
  intro v' w' h1 h2 _
  refine h v' w' ?_ h2
  rw [bcs_append, List.length_append]
  exact h1

/-- append(b, s...), s a text: the arm of the walk -/
theorem wpList_text {w : World} {ops : Array Oper} {rest : List Oper} {o : Oper} {a : Act} {Q : Exit → Act → World → Prop} (s x : Operand)
    {base : Nat} {v : Value} {l0 : List UInt8} (hown : Owns w base 5 1 v l0.length (bcs l0)) (l : List UInt8) (hgd : o.guard = none)
    (ho : o.op = .call { callee := .builtin .append, args := #[s, x], argTypes := #[108, 9] })
    (hs : a.eval s = v) (hx : a.eval x = txt l) (h63 : l0.length + l.length ≤ 140737488355328) (hbase : base ≤ w.heap.size)
    (h : ∀ v' w', Owns w' base 5 1 v' (l0 ++ l).length (bcs (l0 ++ l)) → w.grownBy w' v.ownBlock → wpList Tryz.prog ops Q rest (a.put o.dst v') w') : wpList Tryz.prog ops Q (o :: rest) a w := by
  obtain ⟨i0, hi, hz0, hz1, hz2⟩ := info_parts u8Info
  refine wpList_append_txt hgd s x 108 9 ho base 5 i0 Tryz.underlying108 Tryz.underlying9 hi hz0 hz1 hz2 v l0.length (bcs l0) hs hown l hx (by unfold maxLen; omega) h63 hbase ?_
  intro v' w' h1 h2
  refine h v' w' ?_ h2
  rw [bcs_append, List.length_append]
  exact h1

theorem byte_at {l : List UInt8} {j : Nat} (h : j < l.length) : ∃ c, (bcs l)[j]? = some (bv c) ∧ l.drop j = c :: l.drop (j + 1) ∧ l[j]? = some c :=
  ⟨l[j], by simp [bcs, h], List.drop_eq_getElem_cons h, by simp [h]⟩

theorem below_grown {w w1 w2 : World} {base : Nat} {e : TypeId} {size n : Nat} {v : Value} {xs : List Value} (hb : Below base w w1) (hg : w1.grownBy w2 v.ownBlock) (hown : Owns w1 base e size v n xs) (hbase : base ≤ w1.heap.size) : Below base w w2 :=
  hb.grown hg hbase (fun _ e => (hown.lt e).1)

set_option maxRecDepth 100000 in
set_option maxHeartbeats 400000 in
theorem num_pos (m : Nat) (w : World) (h1 : 0 < m) (h2 : m ≤ 9223372036854775807) :
    Calls Tryz.prog 117 #[.int .i64 m] w fun e w' => e = .returned (txt (numB m)) ∧ Below w.heap.size w w' := by
  go_enter Tryz.func117, Tryz.ntmps117
  go_wp2
  go_loopw [3, 4] (fun b x wr => ∃ (k : Nat) (l : List UInt8), x = .int .i64 k ∧ k ≤ m ∧ digs m = digs k ++ l.reverse ∧ Owns wr w.heap.size 5 1 b l.length (bcs l) ∧ Below w.heap.size w wr) (fun _ x _ => (intOf x).toNat)
  case atStart => exact ⟨m, [], rfl, by omega, (List.append_nil _).symm, Owns.nil _ _ _ _, Below.refl _ _⟩
  case round =>
    obtain ⟨k, l, rfl, hk, hd, hown, hb⟩ := hrel
    obtain ⟨p, cap, rfl⟩ := hown.form
    have hl : l.length ≤ 8 := by have := congrArg List.length hd; have h8 := length_digs m; rw [List.length_append, List.length_reverse] at this; omega
    have HD := Lib.hid hd
    have H1 := Lib.hid hown
    have H2 := Lib.hid hb
    have hsz := hb.size
    clear hd hown hb
    by_cases hlt : 0 < k
    · go_wp2_with (at_builtin; refine wpList_byte _ _ w.heap.size _ l (UInt8.ofNat (k % 256)) wr _ (byte_of k) rfl rfl rfl rfl H1.out rfl (by omega) hsz ?_; intro v' w1 hown1 hg1)
      have hB := below_grown (H2.out.alloc hsz _) hg1 (H1.out.alloc _) (by simp; omega)
      have H3 := Lib.hid hown1
      have H4 := Lib.hid hB
      clear hown1 hg1 hB
      go_roundw
      case rel => exact ⟨k / 256, l ++ [UInt8.ofNat (k % 256)], by go_num, by omega, by rw [HD.out, digs_step (by omega) (by omega)]; simp, H3.out, H4.out⟩
      case measure => simp [intOf] <;> omega
    · have hd : digs m = l.reverse := by rw [HD.out, show k = 0 by omega, digs_zero]; rfl
      rw [show (k : Int) = 0 by omega]
      clear hlt hk
      have HE := Lib.hid hd
      have hb0 : Value.int .u8 (l.length : Int) = bv (UInt8.ofNat (l.length % 256)) := by rw [← byte_of]; congr 1; omega
      have H0 := Lib.hid hb0
      clear hd hb0
      go_wp2
      have hlow : Below w.heap.size w (wr.alloc (.cells #[.int .u8 (l.length : Int)] 5)) := H2.out.alloc hsz _
      have hc2 : Owns (wr.alloc (.cells #[.int .u8 (l.length : Int)] 5)) wr.heap.size 5 1 (.slice (some ⟨wr.heap.size, 0, none⟩) 1 1) 1 (bcs [UInt8.ofNat (l.length % 256)]) := by
        rw [H0.out]
        exact ⟨rfl, .inr ⟨wr.heap.size, 1, #[bv (UInt8.ofNat (l.length % 256))], (0, 0), rfl, Nat.le_refl _, (MapKept.heap_alloc _ _).1, ⟨.inl (by omega), fun _ => rfl⟩, by omega, by unfold maxLen; omega, rfl, rfl⟩⟩
      have H5 := Lib.hid hc2
      have H6 := Lib.hid hlow
      clear hc2 hlow
      go_loopw [5, 6] (fun b x wq => ∃ i : Int, -1 ≤ i ∧ i < l.length ∧ x = .int .i64 i ∧ Owns wq wr.heap.size 5 1 b (UInt8.ofNat (l.length % 256) :: (l.drop (i + 1).toNat).reverse).length (bcs (UInt8.ofNat (l.length % 256) :: (l.drop (i + 1).toNat).reverse)) ∧ Below wr.heap.size wr wq) (fun _ x _ => (intOf x + 1).toNat)
      case atStart =>
        refine ⟨(l.length : Int) - 1, by omega, by omega, rfl, ?_, ((Below.refl _ wr).alloc (Nat.le_refl _) _)⟩
        rw [show ((l.length : Int) - 1 + 1).toNat = l.length by omega, List.drop_length]
        exact H5.out
      case round =>
        obtain ⟨i, hi1, hi2, rfl, hown2, hb2⟩ := hrel
        obtain ⟨p2, cap2, rfl⟩ := hown2.form
        have hsz2 := hb2.size
        by_cases hlt : 0 ≤ i
        · obtain ⟨j, rfl⟩ : ∃ j : Nat, i = j := ⟨i.toNat, by omega⟩
          obtain ⟨c, hc1, hdl, -⟩ := byte_at (l := l) (j := j) (by omega)
          obtain ⟨g, off, rfl, hcell⟩ := H1.out.src j _ hc1
          obtain ⟨-, hg, rfl, -⟩ := H1.out.at rfl
          have hc : wr.cell? ⟨g, j, none⟩ = some (.int .u8 c.toNat) := by
            have := (hb2.cell (p := ⟨g, 0 + j, none⟩) hg).trans hcell
            rw [Nat.zero_add] at this
            exact this
          have H7 := Lib.hid hdl
          have H8 := Lib.hid hown2
          have H9 := Lib.hid hb2
          clear hdl hown2 hb2 hcell hc1
          go_wp2_with (at_builtin; refine wpList_byte _ _ _ _ _ c wr _ rfl rfl rfl rfl rfl H8.out rfl (by simp; omega) (by omega) ?_; intro v' w1 hown1 hg1)
          have hB := below_grown (H9.out.alloc hsz2 _) hg1 (H8.out.alloc _) (by simp; omega)
          go_roundw
          case rel => exact ⟨(j : Int) - 1, by omega, by omega, rfl, by rw [show ((j : Int) - 1 + 1).toNat = j by omega, H7.out]; simpa using hown1, hB⟩
          case measure => simp [intOf] <;> omega
        · obtain rfl : i = -1 := by omega
          go_wp2_with (first | (refine wpList_bytes_txt rfl _ _ _ rfl 5 Tryz.underlying108 Tryz.underlying5 Tryz.underlying9 _ _ _ _ rfl rfl hown2.src hown2.spot ?_))
          go_ret
          refine ⟨?_, H2.out.trans (hb2.mono hsz)⟩
          have e8 : l.length % 256 = l.length := by omega
          unfold numB
          rw [HE.out]
          simp [txt, e8]
set_option maxRecDepth 100000 in
set_option maxHeartbeats 400000 in
theorem num_none (n : Int) (w : World) (h1 : n ≤ 0) :
    Calls Tryz.prog 117 #[.int .i64 n] w fun e w' => e = .returned (txt (numB 0)) ∧ Below w.heap.size w w' := by
  by_cases h0 : n < 0
  all_goals
    go_enter Tryz.func117, Tryz.ntmps117
    go_wp2
    refine wp_loop_rounds 1 ?_
    rw [rounds_succ]
    go_wp2
    refine wp_loop_rounds 1 ?_
    rw [rounds_succ]
    have hsrc : SrcAt (w.alloc (.cells #[.int .u8 0] 5)) (some ⟨w.heap.size, 0, none⟩) (bcs [0]) := src_new w [.int .u8 0] _
    go_wp2_with (first | (refine wpList_bytes_txt rfl _ _ _ rfl 5 Tryz.underlying108 Tryz.underlying5 Tryz.underlying9 _ [0] _ _ rfl rfl hsrc (fun a ha => by cases ha; rfl) ?_))
    go_ret
    exact ⟨rfl, (Below.refl _ w).alloc (Nat.le_refl _) _⟩

theorem num_any (n : Int) (w : World) (h2 : n ≤ 9223372036854775807) :
    Calls Tryz.prog 117 #[.int .i64 n] w fun e w' => e = .returned (txt (numB n.toNat)) ∧ Below w.heap.size w w' := by
  by_cases h : 0 < n
  · obtain ⟨m, rfl⟩ : ∃ m : Nat, n = m := ⟨n.toNat, by omega⟩
    exact num_pos m w (by omega) (by omega)
  · rw [show n.toNat = 0 by omega]
    exact num_none n w (by omega)

/-- a slice of texts: block and cells -/
def scs (l : List (List UInt8)) : List Value := l.map txt

def bytesOf (l : List (List UInt8)) : Nat := (l.map List.length).sum

theorem bytesOf_take (l : List (List UInt8)) (k : Nat) : bytesOf (l.take k) ≤ bytesOf l := by
  unfold bytesOf
  conv => rhs; rw [← List.take_append_drop k l]
  rw [List.map_append, List.sum_append]
  omega

def partsB (l : List (List UInt8)) : List UInt8 := l.flatMap fun s => numB s.length ++ s

theorem partsB_snoc (l : List (List UInt8)) (s : List UInt8) : partsB (l ++ [s]) = partsB l ++ (numB s.length ++ s) := by simp [partsB]

theorem length_partsB (l : List (List UInt8)) : (partsB l).length ≤ 9 * l.length + bytesOf l := by
  unfold partsB bytesOf
  induction l with
  | nil => simp
  | cons a l ih =>
    have := length_numB a.length
    simp only [List.flatMap_cons, List.length_append, List.length_cons, List.map_cons, List.sum_cons]
    omega

theorem text_at {l : List (List UInt8)} {j : Nat} (h : j < l.length) : ∃ s, (scs l)[j]? = some (txt s) ∧ l.take (j + 1) = l.take j ++ [s] ∧ s ∈ l :=
  ⟨l[j], by simp [scs, h], List.take_succ_eq_append_getElem h, List.getElem_mem h⟩

theorem len_le_bytesOf {l : List (List UInt8)} {s : List UInt8} (h : s ∈ l) : s.length ≤ bytesOf l := by
  unfold bytesOf
  induction l with
  | nil => simp at h
  | cons a l ih =>
    simp only [List.map_cons, List.sum_cons]
    rcases List.mem_cons.1 h with rfl | h
    · omega
    · have := ih h; omega

set_option maxRecDepth 100000 in
set_option maxHeartbeats 400000 in
theorem list_any (p : Option Addr) (cap : Nat) (l : List (List UInt8)) (w : World) (hs : SrcAt w p (scs l)) (hB : ∀ b off, p = some ⟨b, off, none⟩ → b < w.heap.size) (hn : l.length ≤ 1099511627776) (hb : bytesOf l ≤ 8796093022208) :
    Calls Tryz.prog 116 #[.slice p l.length cap] w fun e w' => e = .returned (txt (listB l)) ∧ Below w.heap.size w w' := by
  obtain ⟨i0, hi, hz0, hz1, hz2⟩ := info_parts u8Info
  have HS := Lib.hid hs
  have HB := Lib.hid hB
  clear hs hB
  go_enter Tryz.func116, Tryz.ntmps116
  go_wp2_with fail
  refine (num_any _ _ (by omega)).mono ?_
  rintro e w1 ⟨rfl, hb1⟩
  rw [Int.toNat_natCast]
  have h9 := length_numB l.length
  go_wp2_with (first | (refine wpList_txt_bytes rfl _ _ _ rfl 5 Tryz.underlying9 Tryz.underlying108 Tryz.underlying5 _ rfl (by unfold maxLen; omega) ?_; intro cap2 w2 hown2 hb2 hs2))
  have H2 := Lib.hid hown2
  have hz := hb1.size
  have H3 := Lib.hid hb1
  have H4 := Lib.hid hb2
  clear hown2 hb2 hb1 hs2
  go_loopw [3, 12] (fun b x wr => ∃ (n : Nat) (L : List UInt8), n ≤ l.length ∧ x = .int .i64 n ∧ L = numB l.length ++ partsB (l.take n) ∧ Owns wr w1.heap.size 5 1 b L.length (bcs L) ∧ Below w1.heap.size w1 wr) (fun _ x _ => l.length - (intOf x).toNat)
  case atStart => exact ⟨0, numB l.length, by omega, rfl, by simp [partsB], H2.out, H4.out⟩
  case round =>
    obtain ⟨n, L, hn1, rfl, hL, hown, hbr⟩ := hrel
    have hszr := hbr.size
    have hlen1 := length_partsB (l.take n)
    have hlen2 := bytesOf_take l n
    have hlen3 : (l.take n).length ≤ l.length := by rw [List.length_take]; omega
    have hlen5 : L.length = (numB l.length).length + (partsB (l.take n)).length := by rw [hL, List.length_append]
    have hlen6 : L.length ≤ 18 + 9 * l.length + bytesOf l := by omega
    have HL := Lib.hid hL
    have HO := Lib.hid hown
    have HR := Lib.hid hbr
    clear hL hown hbr hlen1 hlen2 hlen3 hlen5
    by_cases hlt : n < l.length
    · obtain ⟨s, hs1, hs2, hs3⟩ := text_at hlt
      have hls := len_le_bytesOf hs3
      obtain ⟨g, off, rfl, hcell⟩ := HS.out n _ hs1
      have hg := HB.out g off rfl
      have hc : wr.cell? ⟨g, off + n, none⟩ = some (txt s) := ((H3.out.trans (HR.out.mono hz)).cell (p := ⟨g, off + n, none⟩) hg).trans hcell
      have hlen4 := length_numB s.length
      have hT := Lib.hid hs2
      clear hs1 hs2 hs3 hcell
      go_wp2_with fail
      refine (num_any _ _ (by omega)).mono ?_
      rintro e w3 ⟨rfl, hb3⟩
      rw [Int.toNat_natCast]
      have hs3 := hb3.size
      have HO3 := Lib.hid (HO.out.under hb3)
      have HR3 := Lib.hid (HR.out.trans (hb3.mono hszr))
      clear hb3
      go_wp2_with (first | (at_builtin; refine wpList_text (.tmp 16) (.tmp 19) HO3.out _ rfl rfl rfl rfl (by omega) (by omega) ?_; intro v4 w4 hown4 hg4; have hs4 := hg4.size; have HR4 := Lib.hid (below_grown HR3.out hg4 HO3.out (by omega)); have HO4 := Lib.hid hown4; clear hown4 hg4) | (at_builtin; refine wpList_text (.tmp 20) (.tmp 21) HO4.out _ rfl rfl rfl rfl (by rw [List.length_append]; omega) (by omega) ?_; intro v5 w5 hown5 hg5))
      have HR5 := below_grown HR4.out hg5 HO4.out (by omega)
      go_roundw
      case rel => exact ⟨n + 1, _, by omega, by go_num, by rw [hT.out, partsB_snoc, HL.out]; simp, hown5, HR5⟩
      case measure => simp [intOf] <;> omega
    · obtain rfl : n = l.length := by omega
      obtain ⟨pv, capv, rfl⟩ := HO.out.form
      go_wp2_with (first | (refine wpList_bytes_txt rfl _ _ _ rfl 5 Tryz.underlying108 Tryz.underlying5 Tryz.underlying9 _ _ _ _ rfl rfl HO.out.src HO.out.spot ?_))
      go_ret
      refine ⟨?_, H3.out.trans (HR.out.mono hz)⟩
      rw [HL.out, List.take_length]
      rfl
end Go.Proofs.YtfoifdhcelcgiaaGreatDoor

/- The document's numbers, texts and lists as bytes: the same bytes. -/
namespace Go.Proofs.YtfoifdhcelcgiaaGreatDoor
open Go Go.RowKit

theorem run_add_txt {P : Program} (w : World) (x y : List UInt8) (h : x.length + y.length ≤ 9223372036854775807) : (Op.stringOp .add ⟨x.toArray⟩ ⟨y.toArray⟩).run P w = .ok (txt (x ++ y)) w := by
  rw [run_string_add_sum w _ _ (by rw [size_txt, size_txt]; exact h), ByteArray.mk_append_mk]

theorem wpList_cat {P : Program} {w : World} {ops : Array Oper} {rest : List Oper} {o : Oper} {a : Act} {Q : Exit → Act → World → Prop} (hgd : o.guard = none) (t u : TypeId) (x y : Operand) (ho : o.op = .binOp .add t x y u)
    (l r : List UInt8) (hx : a.eval x = txt l) (hy : a.eval y = txt r) (h : l.length + r.length ≤ 9223372036854775807)
    (hK : wpList P ops Q rest (a.put o.dst (txt (l ++ r))) w) : wpList P ops Q (o :: rest) a w := by
  refine wpList_plain hgd fun K hK' => ?_
  unfold Oper.wp execOp
  simp only [ho, hx, hy, txt, eqGuard_add, binOp_string_add, Sem.run_bind, run_add_txt w l r h, Sem.run_pure, Result.andThen_ok]
  exact hK' _ _ hK

set_option maxRecDepth 100000 in
set_option maxHeartbeats 400000 in
theorem rnum_nat (m : Nat) (w : World) (h2 : m ≤ 9223372036854775807) :
    Calls Tryz.prog 104 #[.int .i64 m] w fun e w' => e = .returned (txt (numB m)) ∧ Below w.heap.size w w' := by
  go_enter Tryz.func104, Tryz.ntmps104
  go_wp2
  go_loopw [0, 3, 4] (fun x s c wr => ∃ (k : Nat) (l : List UInt8), x = .int .i64 k ∧ k ≤ m ∧ digs m = digs k ++ l ∧ s = txt l ∧ c = .int .i64 l.length ∧ Below w.heap.size w wr) (fun x _ _ _ => (intOf x).toNat)
  case atStart => exact ⟨m, [], rfl, by omega, (List.append_nil _).symm, rfl, rfl, Below.refl _ _⟩
  case round =>
    obtain ⟨k, l, rfl, hk, hd, rfl, rfl, hb⟩ := hrel
    have hl : l.length ≤ 8 := by have := congrArg List.length hd; have h8 := length_digs m; rw [List.length_append] at this; omega
    have HD := Lib.hid hd
    have H2 := Lib.hid hb
    have hsz := hb.size
    clear hd hb
    by_cases hlt : 0 < k
    · have hsrc : SrcAt (wr.alloc (.cells #[.int .u8 ((k : Int) % 256)] 5)) (some ⟨wr.heap.size, 0, none⟩) (bcs [UInt8.ofNat (k % 256)]) := by rw [byte_of]; exact src_new wr [bv (UInt8.ofNat (k % 256))] _
      have HS := Lib.hid hsrc
      clear hsrc
      go_wp2_with (first
        | (refine wpList_bytes_txt rfl _ _ _ rfl 5 Tryz.underlying108 Tryz.underlying5 Tryz.underlying9 _ [UInt8.ofNat (k % 256)] _ _ rfl rfl HS.out (fun a ha => by cases ha; rfl) ?_)
        | (refine wpList_cat rfl _ _ _ _ rfl [UInt8.ofNat (k % 256)] l rfl rfl (by simp; omega) ?_))
      go_roundw
      case rel => exact ⟨k / 256, UInt8.ofNat (k % 256) :: l, by go_num, by omega, by rw [HD.out, digs_step (by omega) (by omega)]; simp, rfl, by go_num, H2.out.alloc hsz _⟩
      case measure => simp [intOf] <;> omega
    · have hd : digs m = l := by rw [HD.out, show k = 0 by omega, digs_zero]; rfl
      have hsrc : SrcAt (wr.alloc (.cells #[.int .u8 (l.length : Int)] 5)) (some ⟨wr.heap.size, 0, none⟩) (bcs [UInt8.ofNat l.length]) := by
        have e : Value.int .u8 (l.length : Int) = bv (UInt8.ofNat l.length) := by congr 1; simp; omega
        rw [e]; exact src_new wr [bv (UInt8.ofNat l.length)] _
      have HS := Lib.hid hsrc
      have HE := Lib.hid hd
      clear hsrc hd
      go_wp2_with (first
        | (refine wpList_bytes_txt rfl _ _ _ rfl 5 Tryz.underlying108 Tryz.underlying5 Tryz.underlying9 _ [UInt8.ofNat l.length] _ _ rfl rfl HS.out (fun a ha => by cases ha; rfl) ?_)
        | (refine wpList_cat rfl _ _ _ _ rfl [UInt8.ofNat l.length] l rfl rfl (by simp; omega) ?_))
      go_ret
      refine ⟨?_, H2.out.alloc hsz _⟩
      unfold numB
      rw [HE.out]
      rfl

set_option maxHeartbeats 400000 in
theorem rtext_any (s : List UInt8) (w : World) (h2 : s.length ≤ 9223372036854775000) :
    Calls Tryz.prog 105 #[txt s] w fun e w' => e = .returned (txt (numB s.length ++ s)) ∧ Below w.heap.size w w' := by
  have h9 := length_numB s.length
  go_enter Tryz.func105, Tryz.ntmps105
  go_wp2_with fail
  refine (rnum_nat _ _ (by omega)).mono ?_
  rintro e w1 ⟨rfl, hb1⟩
  go_wp2_with (first | (refine wpList_cat rfl _ _ _ _ rfl _ s rfl rfl (by omega) ?_))
  go_ret
  exact ⟨rfl, hb1⟩

set_option maxRecDepth 100000 in
set_option maxHeartbeats 400000 in
theorem rlist_any (p : Option Addr) (cap : Nat) (l : List (List UInt8)) (w : World) (hs : SrcAt w p (scs l)) (hB : ∀ b off, p = some ⟨b, off, none⟩ → b < w.heap.size) (hn : l.length ≤ 1099511627776) (hb : bytesOf l ≤ 8796093022208) :
    Calls Tryz.prog 76 #[.slice p l.length cap] w fun e w' => e = .returned (txt (listB l)) ∧ Below w.heap.size w w' := by
  have HS := Lib.hid hs
  have HB := Lib.hid hB
  clear hs hB
  go_enter Tryz.func76, Tryz.ntmps76
  go_wp2_with fail
  refine (rnum_nat _ _ (by omega)).mono ?_
  rintro e w1 ⟨rfl, hb1⟩
  have h9 := length_numB l.length
  have H3 := Lib.hid hb1
  have hz := hb1.size
  clear hb1
  go_wp2
  go_loopw [3, 11] (fun b x wr => ∃ (n : Nat) (L : List UInt8), n ≤ l.length ∧ x = .int .i64 n ∧ L = numB l.length ++ partsB (l.take n) ∧ b = txt L ∧ Below w.heap.size w wr) (fun _ x _ => l.length - (intOf x).toNat)
  case atStart => exact ⟨0, numB l.length, by omega, rfl, by simp [partsB], rfl, H3.out⟩
  case round =>
    obtain ⟨n, L, hn1, rfl, hL, rfl, hbr⟩ := hrel
    have hszr := hbr.size
    have hlen1 := length_partsB (l.take n)
    have hlen2 := bytesOf_take l n
    have hlen3 : (l.take n).length ≤ l.length := by rw [List.length_take]; omega
    have hlen5 : L.length = (numB l.length).length + (partsB (l.take n)).length := by rw [hL, List.length_append]
    have hlen6 : L.length ≤ 18 + 9 * l.length + bytesOf l := by omega
    have HL := Lib.hid hL
    have HR := Lib.hid hbr
    clear hL hbr hlen1 hlen2 hlen3 hlen5
    by_cases hlt : n < l.length
    · obtain ⟨s, hs1, hs2, hs3⟩ := text_at hlt
      have hls := len_le_bytesOf hs3
      obtain ⟨g, off, rfl, hcell⟩ := HS.out n _ hs1
      have hg := HB.out g off rfl
      have hc : wr.cell? ⟨g, off + n, none⟩ = some (txt s) := (HR.out.cell (p := ⟨g, off + n, none⟩) hg).trans hcell
      have hlen4 := length_numB s.length
      have hT := Lib.hid hs2
      clear hs1 hs2 hs3 hcell
      go_wp2_with fail
      refine (rtext_any _ _ (by omega)).mono ?_
      rintro e w3 ⟨rfl, hb3⟩
      have HR3 := Lib.hid (HR.out.trans (hb3.mono hszr))
      clear hb3
      go_wp2_with (first | (refine wpList_cat rfl _ _ _ _ rfl L _ rfl rfl (by rw [List.length_append]; omega) ?_))
      go_roundw
      case rel => exact ⟨n + 1, _, by omega, by go_num, by rw [hT.out, partsB_snoc, HL.out]; simp, rfl, HR3.out⟩
      case measure => simp [intOf] <;> omega
    · obtain rfl : n = l.length := by omega
      go_wp2
      go_ret
      refine ⟨?_, HR.out⟩
      rw [HL.out, List.take_length]
      rfl
end Go.Proofs.YtfoifdhcelcgiaaGreatDoor

/- sha: numbers of 32 bits, as the walk writes them; turns. -/
namespace Go.Proofs.YtfoifdhcelcgiaaGreatDoor
open Go Go.RowKit

theorem below_drewN {B : Nat} {a w : World} (h : Below B a w) (n : Nat) : Below B a (w.drewN n) := ⟨h.os, h.tape, h.output, h.size, h.block⟩

theorem grownBy_set (w : World) (b i : Nat) (v : Value) : w.grownBy (w.setCell ⟨b, i, none⟩ v) (some b) :=
  ⟨rfl, rfl, rfl, by simp, fun k _ hk => Below.heap_setCell w _ v k (fun e => hk (by rw [e]))⟩
theorem grownBy_drew {w w' : World} {r : Option Nat} (h : w.grownBy w' r) : w.grownBy w'.drew r := ⟨h.os, h.tape, h.output, h.size, h.block⟩
theorem grownBy_trans {a b c : World} {r : Option Nat} (h : a.grownBy b r) (k : b.grownBy c r) : a.grownBy c r :=
  ⟨k.os.trans h.os, k.tape.trans h.tape, k.output.trans h.output, Nat.le_trans h.size k.size, fun i hi hne => (k.block i (Nat.lt_of_lt_of_le hi h.size) hne).trans (h.block i hi hne)⟩

abbrev vw (x : UInt32) : Value := .int .u32 x.toNat

/- the operations under names of their own: so the walk leaves them whole -/
def bOr (x y : UInt32) : UInt32 := x ||| y
def bXor (x y : UInt32) : UInt32 := x ^^^ y
def bAnd (x y : UInt32) : UInt32 := x &&& y
def bNot (x : UInt32) : UInt32 := ~~~x
def bAdd (x y : UInt32) : UInt32 := x + y
def bShr (n x : UInt32) : UInt32 := x >>> n
def bShl (n x : UInt32) : UInt32 := x <<< n

theorem bvi (x : UInt32) : BitVec.ofInt 32 (x.toNat : Int) = x.toBitVec := by
  apply BitVec.eq_of_toNat_eq
  have := x.toNat_lt
  simp only [BitVec.toNat_ofInt]
  have h : (x.toNat : Int) % ((2 ^ 32 : Nat) : Int) = (x.toNat : Int) := by omega
  rw [h]
  simp

theorem wrapn (n : Nat) (h : n < 4294967296) : IntKind.u32.wrap (n : Int) = n := by
  simp [IntKind.wrap, IntKind.bits, IntKind.signed]
  omega

theorem r_or (x y : UInt32) : bits .or .u32 (x.toNat : Int) (y.toNat : Int) = ((bOr x y).toNat : Int) := by
  unfold bits
  simp only [IntKind.bits, bvi]
  exact wrapn _ (x ||| y).toNat_lt
theorem r_xor (x y : UInt32) : bits .xor .u32 (x.toNat : Int) (y.toNat : Int) = ((bXor x y).toNat : Int) := by
  unfold bits
  simp only [IntKind.bits, bvi]
  exact wrapn _ (x ^^^ y).toNat_lt
theorem r_and (x y : UInt32) : bits .and .u32 (x.toNat : Int) (y.toNat : Int) = ((bAnd x y).toNat : Int) := by
  unfold bits
  simp only [IntKind.bits, bvi]
  exact wrapn _ (x &&& y).toNat_lt
theorem r_not (x : UInt32) : bits .xor .u32 4294967295 (x.toNat : Int) = ((bNot x).toNat : Int) := by
  have h := r_xor 4294967295 x
  have e : ((4294967295 : UInt32).toNat : Int) = 4294967295 := by decide
  rw [e] at h
  rw [h]
  unfold bNot bXor
  congr 2
theorem r_notm (x : UInt32) : bits .xor .u32 IntKind.u32.max (x.toNat : Int) = ((bNot x).toNat : Int) := r_not x
theorem r_add (x y : UInt32) : ((x.toNat : Int) + (y.toNat : Int)) % (4294967296 : Int) = ((bAdd x y).toNat : Int) := by
  unfold bAdd
  rw [UInt32.toNat_add]
  omega

theorem r_shr3 (x : UInt32) : (x.toNat : Int) / (8 : Int) = ((bShr 3 x).toNat : Int) := by
  unfold bShr
  rw [UInt32.toNat_shiftRight]
  simp [Nat.shiftRight_eq_div_pow]
theorem r_shr10 (x : UInt32) : (x.toNat : Int) / (1024 : Int) = ((bShr 10 x).toNat : Int) := by
  unfold bShr
  rw [UInt32.toNat_shiftRight]
  simp [Nat.shiftRight_eq_div_pow]
theorem r_shr2 (x : UInt32) : (x.toNat : Int) / (4 : Int) = ((bShr 2 x).toNat : Int) := by
  unfold bShr
  rw [UInt32.toNat_shiftRight]
  simp [Nat.shiftRight_eq_div_pow]
theorem r_shr6 (x : UInt32) : (x.toNat : Int) / (64 : Int) = ((bShr 6 x).toNat : Int) := by
  unfold bShr
  rw [UInt32.toNat_shiftRight]
  simp [Nat.shiftRight_eq_div_pow]
theorem r_shr7 (x : UInt32) : (x.toNat : Int) / (128 : Int) = ((bShr 7 x).toNat : Int) := by
  unfold bShr
  rw [UInt32.toNat_shiftRight]
  simp [Nat.shiftRight_eq_div_pow]
theorem r_shr11 (x : UInt32) : (x.toNat : Int) / (2048 : Int) = ((bShr 11 x).toNat : Int) := by
  unfold bShr
  rw [UInt32.toNat_shiftRight]
  simp [Nat.shiftRight_eq_div_pow]
theorem r_shr13 (x : UInt32) : (x.toNat : Int) / (8192 : Int) = ((bShr 13 x).toNat : Int) := by
  unfold bShr
  rw [UInt32.toNat_shiftRight]
  simp [Nat.shiftRight_eq_div_pow]
theorem r_shr17 (x : UInt32) : (x.toNat : Int) / (131072 : Int) = ((bShr 17 x).toNat : Int) := by
  unfold bShr
  rw [UInt32.toNat_shiftRight]
  simp [Nat.shiftRight_eq_div_pow]
theorem r_shr18 (x : UInt32) : (x.toNat : Int) / (262144 : Int) = ((bShr 18 x).toNat : Int) := by
  unfold bShr
  rw [UInt32.toNat_shiftRight]
  simp [Nat.shiftRight_eq_div_pow]
theorem r_shr19 (x : UInt32) : (x.toNat : Int) / (524288 : Int) = ((bShr 19 x).toNat : Int) := by
  unfold bShr
  rw [UInt32.toNat_shiftRight]
  simp [Nat.shiftRight_eq_div_pow]
theorem r_shr22 (x : UInt32) : (x.toNat : Int) / (4194304 : Int) = ((bShr 22 x).toNat : Int) := by
  unfold bShr
  rw [UInt32.toNat_shiftRight]
  simp [Nat.shiftRight_eq_div_pow]
theorem r_shr25 (x : UInt32) : (x.toNat : Int) / (33554432 : Int) = ((bShr 25 x).toNat : Int) := by
  unfold bShr
  rw [UInt32.toNat_shiftRight]
  simp [Nat.shiftRight_eq_div_pow]
theorem r_shr24 (x : UInt32) : (x.toNat : Int) / (16777216 : Int) = ((bShr 24 x).toNat : Int) := by
  unfold bShr
  rw [UInt32.toNat_shiftRight]
  simp [Nat.shiftRight_eq_div_pow]
theorem r_shr16 (x : UInt32) : (x.toNat : Int) / (65536 : Int) = ((bShr 16 x).toNat : Int) := by
  unfold bShr
  rw [UInt32.toNat_shiftRight]
  simp [Nat.shiftRight_eq_div_pow]
theorem r_shr8 (x : UInt32) : (x.toNat : Int) / (256 : Int) = ((bShr 8 x).toNat : Int) := by
  unfold bShr
  rw [UInt32.toNat_shiftRight]
  simp [Nat.shiftRight_eq_div_pow]
theorem r_shl7 (x : UInt32) : (x.toNat : Int) * (128 : Int) % (4294967296 : Int) = ((bShl 7 x).toNat : Int) := by
  unfold bShl
  rw [UInt32.toNat_shiftLeft]
  simp [Nat.shiftLeft_eq]
theorem r_shl8 (x : UInt32) : (x.toNat : Int) * (256 : Int) % (4294967296 : Int) = ((bShl 8 x).toNat : Int) := by
  unfold bShl
  rw [UInt32.toNat_shiftLeft]
  simp [Nat.shiftLeft_eq]
theorem r_shl10 (x : UInt32) : (x.toNat : Int) * (1024 : Int) % (4294967296 : Int) = ((bShl 10 x).toNat : Int) := by
  unfold bShl
  rw [UInt32.toNat_shiftLeft]
  simp [Nat.shiftLeft_eq]
theorem r_shl13 (x : UInt32) : (x.toNat : Int) * (8192 : Int) % (4294967296 : Int) = ((bShl 13 x).toNat : Int) := by
  unfold bShl
  rw [UInt32.toNat_shiftLeft]
  simp [Nat.shiftLeft_eq]
theorem r_shl14 (x : UInt32) : (x.toNat : Int) * (16384 : Int) % (4294967296 : Int) = ((bShl 14 x).toNat : Int) := by
  unfold bShl
  rw [UInt32.toNat_shiftLeft]
  simp [Nat.shiftLeft_eq]
theorem r_shl15 (x : UInt32) : (x.toNat : Int) * (32768 : Int) % (4294967296 : Int) = ((bShl 15 x).toNat : Int) := by
  unfold bShl
  rw [UInt32.toNat_shiftLeft]
  simp [Nat.shiftLeft_eq]
theorem r_shl16 (x : UInt32) : (x.toNat : Int) * (65536 : Int) % (4294967296 : Int) = ((bShl 16 x).toNat : Int) := by
  unfold bShl
  rw [UInt32.toNat_shiftLeft]
  simp [Nat.shiftLeft_eq]
theorem r_shl19 (x : UInt32) : (x.toNat : Int) * (524288 : Int) % (4294967296 : Int) = ((bShl 19 x).toNat : Int) := by
  unfold bShl
  rw [UInt32.toNat_shiftLeft]
  simp [Nat.shiftLeft_eq]
theorem r_shl21 (x : UInt32) : (x.toNat : Int) * (2097152 : Int) % (4294967296 : Int) = ((bShl 21 x).toNat : Int) := by
  unfold bShl
  rw [UInt32.toNat_shiftLeft]
  simp [Nat.shiftLeft_eq]
theorem r_shl24 (x : UInt32) : (x.toNat : Int) * (16777216 : Int) % (4294967296 : Int) = ((bShl 24 x).toNat : Int) := by
  unfold bShl
  rw [UInt32.toNat_shiftLeft]
  simp [Nat.shiftLeft_eq]
theorem r_shl25 (x : UInt32) : (x.toNat : Int) * (33554432 : Int) % (4294967296 : Int) = ((bShl 25 x).toNat : Int) := by
  unfold bShl
  rw [UInt32.toNat_shiftLeft]
  simp [Nat.shiftLeft_eq]
theorem r_shl26 (x : UInt32) : (x.toNat : Int) * (67108864 : Int) % (4294967296 : Int) = ((bShl 26 x).toNat : Int) := by
  unfold bShl
  rw [UInt32.toNat_shiftLeft]
  simp [Nat.shiftLeft_eq]
theorem r_shl30 (x : UInt32) : (x.toNat : Int) * (1073741824 : Int) % (4294967296 : Int) = ((bShl 30 x).toNat : Int) := by
  unfold bShl
  rw [UInt32.toNat_shiftLeft]
  simp [Nat.shiftLeft_eq]

def rotr (n x : UInt32) : UInt32 := bOr (bShr n x) (bShl (32 - n) x)

theorem rot_2 (x : UInt32) (w : World) :
    Calls Tryz.prog 131 #[vw x, .int .i64 (-2)] w fun e w' => e = .returned (vw (rotr 2 x)) ∧ w' = w := by
  have h1 : bits .and .u64 (IntKind.u64.wrap (-2)) 31 = 30 := by decide
  have h2 := r_shr2 x
  have h3 := r_shl30 x
  have h4 := r_or (bShl 30 x) (bShr 2 x)
  go_enter Tryz.func131, Tryz.ntmps131
  go_wp2
  go_ret
  exact ⟨by rw [show rotr 2 x = bOr (bShl 30 x) (bShr 2 x) from UInt32.or_comm _ _]; rfl, rfl⟩
theorem turn_2 (x : UInt32) (w : World) :
    Calls Tryz.prog 103 #[vw x, .int .u32 2] w fun e w' => e = .returned (vw (rotr 2 x)) ∧ w' = w := by
  have h2 := r_shr2 x
  have h3 := r_shl30 x
  have h4 := r_or (bShr 2 x) (bShl 30 x)
  go_enter Tryz.func103, Tryz.ntmps103
  go_wp2
  go_ret
  exact ⟨rfl, rfl⟩
theorem rot_6 (x : UInt32) (w : World) :
    Calls Tryz.prog 131 #[vw x, .int .i64 (-6)] w fun e w' => e = .returned (vw (rotr 6 x)) ∧ w' = w := by
  have h1 : bits .and .u64 (IntKind.u64.wrap (-6)) 31 = 26 := by decide
  have h2 := r_shr6 x
  have h3 := r_shl26 x
  have h4 := r_or (bShl 26 x) (bShr 6 x)
  go_enter Tryz.func131, Tryz.ntmps131
  go_wp2
  go_ret
  exact ⟨by rw [show rotr 6 x = bOr (bShl 26 x) (bShr 6 x) from UInt32.or_comm _ _]; rfl, rfl⟩
theorem turn_6 (x : UInt32) (w : World) :
    Calls Tryz.prog 103 #[vw x, .int .u32 6] w fun e w' => e = .returned (vw (rotr 6 x)) ∧ w' = w := by
  have h2 := r_shr6 x
  have h3 := r_shl26 x
  have h4 := r_or (bShr 6 x) (bShl 26 x)
  go_enter Tryz.func103, Tryz.ntmps103
  go_wp2
  go_ret
  exact ⟨rfl, rfl⟩
theorem rot_7 (x : UInt32) (w : World) :
    Calls Tryz.prog 131 #[vw x, .int .i64 (-7)] w fun e w' => e = .returned (vw (rotr 7 x)) ∧ w' = w := by
  have h1 : bits .and .u64 (IntKind.u64.wrap (-7)) 31 = 25 := by decide
  have h2 := r_shr7 x
  have h3 := r_shl25 x
  have h4 := r_or (bShl 25 x) (bShr 7 x)
  go_enter Tryz.func131, Tryz.ntmps131
  go_wp2
  go_ret
  exact ⟨by rw [show rotr 7 x = bOr (bShl 25 x) (bShr 7 x) from UInt32.or_comm _ _]; rfl, rfl⟩
theorem turn_7 (x : UInt32) (w : World) :
    Calls Tryz.prog 103 #[vw x, .int .u32 7] w fun e w' => e = .returned (vw (rotr 7 x)) ∧ w' = w := by
  have h2 := r_shr7 x
  have h3 := r_shl25 x
  have h4 := r_or (bShr 7 x) (bShl 25 x)
  go_enter Tryz.func103, Tryz.ntmps103
  go_wp2
  go_ret
  exact ⟨rfl, rfl⟩
theorem rot_11 (x : UInt32) (w : World) :
    Calls Tryz.prog 131 #[vw x, .int .i64 (-11)] w fun e w' => e = .returned (vw (rotr 11 x)) ∧ w' = w := by
  have h1 : bits .and .u64 (IntKind.u64.wrap (-11)) 31 = 21 := by decide
  have h2 := r_shr11 x
  have h3 := r_shl21 x
  have h4 := r_or (bShl 21 x) (bShr 11 x)
  go_enter Tryz.func131, Tryz.ntmps131
  go_wp2
  go_ret
  exact ⟨by rw [show rotr 11 x = bOr (bShl 21 x) (bShr 11 x) from UInt32.or_comm _ _]; rfl, rfl⟩
theorem turn_11 (x : UInt32) (w : World) :
    Calls Tryz.prog 103 #[vw x, .int .u32 11] w fun e w' => e = .returned (vw (rotr 11 x)) ∧ w' = w := by
  have h2 := r_shr11 x
  have h3 := r_shl21 x
  have h4 := r_or (bShr 11 x) (bShl 21 x)
  go_enter Tryz.func103, Tryz.ntmps103
  go_wp2
  go_ret
  exact ⟨rfl, rfl⟩
theorem rot_13 (x : UInt32) (w : World) :
    Calls Tryz.prog 131 #[vw x, .int .i64 (-13)] w fun e w' => e = .returned (vw (rotr 13 x)) ∧ w' = w := by
  have h1 : bits .and .u64 (IntKind.u64.wrap (-13)) 31 = 19 := by decide
  have h2 := r_shr13 x
  have h3 := r_shl19 x
  have h4 := r_or (bShl 19 x) (bShr 13 x)
  go_enter Tryz.func131, Tryz.ntmps131
  go_wp2
  go_ret
  exact ⟨by rw [show rotr 13 x = bOr (bShl 19 x) (bShr 13 x) from UInt32.or_comm _ _]; rfl, rfl⟩
theorem turn_13 (x : UInt32) (w : World) :
    Calls Tryz.prog 103 #[vw x, .int .u32 13] w fun e w' => e = .returned (vw (rotr 13 x)) ∧ w' = w := by
  have h2 := r_shr13 x
  have h3 := r_shl19 x
  have h4 := r_or (bShr 13 x) (bShl 19 x)
  go_enter Tryz.func103, Tryz.ntmps103
  go_wp2
  go_ret
  exact ⟨rfl, rfl⟩
theorem rot_17 (x : UInt32) (w : World) :
    Calls Tryz.prog 131 #[vw x, .int .i64 (-17)] w fun e w' => e = .returned (vw (rotr 17 x)) ∧ w' = w := by
  have h1 : bits .and .u64 (IntKind.u64.wrap (-17)) 31 = 15 := by decide
  have h2 := r_shr17 x
  have h3 := r_shl15 x
  have h4 := r_or (bShl 15 x) (bShr 17 x)
  go_enter Tryz.func131, Tryz.ntmps131
  go_wp2
  go_ret
  exact ⟨by rw [show rotr 17 x = bOr (bShl 15 x) (bShr 17 x) from UInt32.or_comm _ _]; rfl, rfl⟩
theorem turn_17 (x : UInt32) (w : World) :
    Calls Tryz.prog 103 #[vw x, .int .u32 17] w fun e w' => e = .returned (vw (rotr 17 x)) ∧ w' = w := by
  have h2 := r_shr17 x
  have h3 := r_shl15 x
  have h4 := r_or (bShr 17 x) (bShl 15 x)
  go_enter Tryz.func103, Tryz.ntmps103
  go_wp2
  go_ret
  exact ⟨rfl, rfl⟩
theorem rot_18 (x : UInt32) (w : World) :
    Calls Tryz.prog 131 #[vw x, .int .i64 (-18)] w fun e w' => e = .returned (vw (rotr 18 x)) ∧ w' = w := by
  have h1 : bits .and .u64 (IntKind.u64.wrap (-18)) 31 = 14 := by decide
  have h2 := r_shr18 x
  have h3 := r_shl14 x
  have h4 := r_or (bShl 14 x) (bShr 18 x)
  go_enter Tryz.func131, Tryz.ntmps131
  go_wp2
  go_ret
  exact ⟨by rw [show rotr 18 x = bOr (bShl 14 x) (bShr 18 x) from UInt32.or_comm _ _]; rfl, rfl⟩
theorem turn_18 (x : UInt32) (w : World) :
    Calls Tryz.prog 103 #[vw x, .int .u32 18] w fun e w' => e = .returned (vw (rotr 18 x)) ∧ w' = w := by
  have h2 := r_shr18 x
  have h3 := r_shl14 x
  have h4 := r_or (bShr 18 x) (bShl 14 x)
  go_enter Tryz.func103, Tryz.ntmps103
  go_wp2
  go_ret
  exact ⟨rfl, rfl⟩
theorem rot_19 (x : UInt32) (w : World) :
    Calls Tryz.prog 131 #[vw x, .int .i64 (-19)] w fun e w' => e = .returned (vw (rotr 19 x)) ∧ w' = w := by
  have h1 : bits .and .u64 (IntKind.u64.wrap (-19)) 31 = 13 := by decide
  have h2 := r_shr19 x
  have h3 := r_shl13 x
  have h4 := r_or (bShl 13 x) (bShr 19 x)
  go_enter Tryz.func131, Tryz.ntmps131
  go_wp2
  go_ret
  exact ⟨by rw [show rotr 19 x = bOr (bShl 13 x) (bShr 19 x) from UInt32.or_comm _ _]; rfl, rfl⟩
theorem turn_19 (x : UInt32) (w : World) :
    Calls Tryz.prog 103 #[vw x, .int .u32 19] w fun e w' => e = .returned (vw (rotr 19 x)) ∧ w' = w := by
  have h2 := r_shr19 x
  have h3 := r_shl13 x
  have h4 := r_or (bShr 19 x) (bShl 13 x)
  go_enter Tryz.func103, Tryz.ntmps103
  go_wp2
  go_ret
  exact ⟨rfl, rfl⟩
theorem rot_22 (x : UInt32) (w : World) :
    Calls Tryz.prog 131 #[vw x, .int .i64 (-22)] w fun e w' => e = .returned (vw (rotr 22 x)) ∧ w' = w := by
  have h1 : bits .and .u64 (IntKind.u64.wrap (-22)) 31 = 10 := by decide
  have h2 := r_shr22 x
  have h3 := r_shl10 x
  have h4 := r_or (bShl 10 x) (bShr 22 x)
  go_enter Tryz.func131, Tryz.ntmps131
  go_wp2
  go_ret
  exact ⟨by rw [show rotr 22 x = bOr (bShl 10 x) (bShr 22 x) from UInt32.or_comm _ _]; rfl, rfl⟩
theorem turn_22 (x : UInt32) (w : World) :
    Calls Tryz.prog 103 #[vw x, .int .u32 22] w fun e w' => e = .returned (vw (rotr 22 x)) ∧ w' = w := by
  have h2 := r_shr22 x
  have h3 := r_shl10 x
  have h4 := r_or (bShr 22 x) (bShl 10 x)
  go_enter Tryz.func103, Tryz.ntmps103
  go_wp2
  go_ret
  exact ⟨rfl, rfl⟩
theorem rot_25 (x : UInt32) (w : World) :
    Calls Tryz.prog 131 #[vw x, .int .i64 (-25)] w fun e w' => e = .returned (vw (rotr 25 x)) ∧ w' = w := by
  have h1 : bits .and .u64 (IntKind.u64.wrap (-25)) 31 = 7 := by decide
  have h2 := r_shr25 x
  have h3 := r_shl7 x
  have h4 := r_or (bShl 7 x) (bShr 25 x)
  go_enter Tryz.func131, Tryz.ntmps131
  go_wp2
  go_ret
  exact ⟨by rw [show rotr 25 x = bOr (bShl 7 x) (bShr 25 x) from UInt32.or_comm _ _]; rfl, rfl⟩
theorem turn_25 (x : UInt32) (w : World) :
    Calls Tryz.prog 103 #[vw x, .int .u32 25] w fun e w' => e = .returned (vw (rotr 25 x)) ∧ w' = w := by
  have h2 := r_shr25 x
  have h3 := r_shl7 x
  have h4 := r_or (bShr 25 x) (bShl 7 x)
  go_enter Tryz.func103, Tryz.ntmps103
  go_wp2
  go_ret
  exact ⟨rfl, rfl⟩
end Go.Proofs.YtfoifdhcelcgiaaGreatDoor

/- sha, plain: the words of a block, the rounds; and an array of numbers in memory that is filled from its beginning on. -/
namespace Go.Proofs.YtfoifdhcelcgiaaGreatDoor
open Go Go.RowKit

def w8 (c : UInt8) : UInt32 := c.toUInt32

theorem w8_nat (c : UInt8) : ((w8 c).toNat : Int) = (c.toNat : Int) := by simp [w8]

/- the rules, as a region that draws its order spells them -/
theorem w_u8 (c : UInt8) : IntKind.u32.wrap (c.toNat : Int) = ((w8 c).toNat : Int) := by
  rw [w8_nat]
  have := c.toNat_lt
  exact wrapn _ (by omega)
theorem wrap32 (n : Nat) : IntKind.u32.wrap (n : Int) = (n : Int) % (4294967296 : Int) := by
  simp [IntKind.wrap, IntKind.bits, IntKind.signed]
theorem wrap32i (n : Int) : IntKind.u32.wrap n = n % (4294967296 : Int) := by
  simp [IntKind.wrap, IntKind.bits, IntKind.signed]
theorem w_add (x y : UInt32) : IntKind.u32.wrap ((x.toNat : Int) + (y.toNat : Int)) = ((bAdd x y).toNat : Int) := by rw [wrap32i]; exact r_add x y
theorem w_shl24 (x : UInt32) : IntKind.u32.wrap ((x.toNat : Int) * 16777216) = ((bShl 24 x).toNat : Int) := by rw [wrap32i]; exact r_shl24 x
theorem w_shl16 (x : UInt32) : IntKind.u32.wrap ((x.toNat : Int) * 65536) = ((bShl 16 x).toNat : Int) := by rw [wrap32i]; exact r_shl16 x
theorem w_shl8 (x : UInt32) : IntKind.u32.wrap ((x.toNat : Int) * 256) = ((bShl 8 x).toNat : Int) := by rw [wrap32i]; exact r_shl8 x

/-- four bytes as a word -/
def ldw (a b c d : UInt8) : UInt32 := bOr (bOr (bOr (bShl 24 (w8 a)) (bShl 16 (w8 b))) (bShl 8 (w8 c))) (w8 d)
def ldAt (p : List UInt8) (i : Nat) : UInt32 := ldw (p.getD (4 * i) 0) (p.getD (4 * i + 1) 0) (p.getD (4 * i + 2) 0) (p.getD (4 * i + 3) 0)

def sg0 (x : UInt32) : UInt32 := bXor (bXor (rotr 7 x) (rotr 18 x)) (bShr 3 x)
def sg1 (y : UInt32) : UInt32 := bXor (bXor (rotr 17 y) (rotr 19 y)) (bShr 10 y)
def nxt (a b c d : UInt32) : UInt32 := bAdd (bAdd (bAdd a b) (sg0 c)) (sg1 d)
def nxtAt (l : List UInt32) (i : Nat) : UInt32 := nxt (l.getD (i - 16) 0) (l.getD (i - 7) 0) (l.getD (i - 15) 0) (l.getD (i - 2) 0)

/-- the first n words of a block -/
def sched (p : List UInt8) : Nat → List UInt32
  | 0 => []
  | i + 1 => sched p i ++ [if i < 16 then ldAt p i else nxtAt (sched p i) i]

theorem length_sched (p : List UInt8) : ∀ n, (sched p n).length = n
  | 0 => rfl
  | n + 1 => by rw [sched, List.length_append, length_sched p n]; rfl

structure St where
  a : UInt32
  b : UInt32
  c : UInt32
  d : UInt32
  e : UInt32
  f : UInt32
  g : UInt32
  h : UInt32

def St.cs (s : St) : List Value := [vw s.a, vw s.b, vw s.c, vw s.d, vw s.e, vw s.f, vw s.g, vw s.h]
def St.t (s : St) (k w : UInt32) : UInt32 := bAdd (bAdd (bAdd (bAdd s.h (bXor (bXor (rotr 6 s.e) (rotr 11 s.e)) (rotr 25 s.e))) (bXor (bAnd s.e s.f) (bAnd (bNot s.e) s.g))) k) w
def St.u (s : St) : UInt32 := bAdd (bXor (bXor (rotr 2 s.a) (rotr 13 s.a)) (rotr 22 s.a)) (bXor (bXor (bAnd s.a s.b) (bAnd s.a s.c)) (bAnd s.b s.c))
def St.round (s : St) (k w : UInt32) : St := ⟨bAdd (s.t k w) s.u, s.a, s.b, s.c, bAdd s.d (s.t k w), s.e, s.f, s.g⟩
def St.rounds (s : St) (ks ws : List UInt32) : Nat → St
  | 0 => s
  | n + 1 => (s.rounds ks ws n).round (ks.getD n 0) (ws.getD n 0)
def St.add (s t : St) : St := ⟨bAdd s.a t.a, bAdd s.b t.b, bAdd s.c t.c, bAdd s.d t.d, bAdd s.e t.e, bAdd s.f t.f, bAdd s.g t.g, bAdd s.h t.h⟩

def KT : List UInt32 := [1116352408, 1899447441, 3049323471, 3921009573, 961987163, 1508970993, 2453635748, 2870763221, 3624381080, 310598401, 607225278, 1426881987, 1925078388, 2162078206, 2614888103, 3248222580, 3835390401, 4022224774, 264347078, 604807628, 770255983, 1249150122, 1555081692, 1996064986, 2554220882, 2821834349, 2952996808, 3210313671, 3336571891, 3584528711, 113926993, 338241895, 666307205, 773529912, 1294757372, 1396182291, 1695183700, 1986661051, 2177026350, 2456956037, 2730485921, 2820302411, 3259730800, 3345764771, 3516065817, 3600352804, 4094571909, 275423344, 430227734, 506948616, 659060556, 883997877, 958139571, 1322822218, 1537002063, 1747873779, 1955562222, 2024104815, 2227730452, 2361852424, 2428436474, 2756734187, 3204031479, 3329325298]
def H0 : St := ⟨1779033703, 3144134277, 1013904242, 2773480762, 1359893119, 2600822924, 528734635, 1541459225⟩

/-- a block of 64 bytes is taken in -/
def mixS (p : List UInt8) (s : St) : St := s.add (s.rounds KT (sched p 64) 64)

def St.l (s : St) : List UInt32 := [s.a, s.b, s.c, s.d, s.e, s.f, s.g, s.h]
theorem St.cs_l (s : St) : s.cs = s.l.map vw := rfl

/-- the sums, one by one -/
def addL (s t : List UInt32) (n : Nat) : List UInt32 := (List.zipWith bAdd s t).take n ++ s.drop n

theorem addL_zero (s t : List UInt32) : addL s t 0 = s := by simp [addL]
theorem addL_all (s t : St) : addL s.l t.l 8 = (s.add t).l := rfl
theorem addL_length {s t : List UInt32} (hs : s.length = 8) (ht : t.length = 8) {n : Nat} (hn : n ≤ 8) : (addL s t n).length = 8 := by simp [addL, hs, ht]; omega
theorem addL_get {s t : List UInt32} (hs : s.length = 8) (ht : t.length = 8) {n : Nat} (hn : n < 8) : (addL s t n)[n]? = some (s.getD n 0) := by
  unfold addL
  rw [List.getElem?_append_right (by simp; omega)]
  simp [hs, ht, List.getD, show min n 8 = n by omega, hn]
theorem addL_set {s t : List UInt32} (hs : s.length = 8) (ht : t.length = 8) {n : Nat} (hn : n < 8) : (addL s t n).set n (bAdd (s.getD n 0) (t.getD n 0)) = addL s t (n + 1) := by
  unfold addL
  have h1 : ((List.zipWith bAdd s t).take n).length = n := by simp [hs, ht]; omega
  have e1 : s.drop n = s.getD n 0 :: s.drop (n + 1) := by rw [List.drop_eq_getElem_cons (by omega)]; simp [List.getD, hs, hn]
  have e2 : (List.zipWith bAdd s t).take (n + 1) = (List.zipWith bAdd s t).take n ++ [bAdd (s.getD n 0) (t.getD n 0)] := by
    rw [List.take_succ_eq_append_getElem (by simp [hs, ht]; omega)]
    simp [List.getD, hs, ht, hn]
  rw [List.set_append_right _ _ (by omega), h1, e1, e2, Nat.sub_self]
  simp

/-- a row of numbers, one of them turned -/
theorem row_set {w : World} {b n : Nat} {t : TypeId} {l : List UInt32} (h : w.heap[b]? = some (.cells (l.map vw).toArray t (0, 0))) (x : UInt32) : (w.setCell ⟨b, n, none⟩ (vw x)).heap[b]? = some (.cells ((l.set n x).map vw).toArray t (0, 0)) := by
  rw [setCell_eq_setRow w b n _ t (0, 0) _ h, setRow_heap w b _ _ t (0, 0) h]
  congr 2
  simp [List.map_set]

/-- a whole value into a variable that is there -/
theorem wpList_storeRow {P : Program} {w : World} {ops : Array Oper} {rest : List Oper} {o : Oper} {a : Act} {Q : Exit → Act → World → Prop} (hg : o.guard = none) (t : TypeId) (x v : Operand) (hop : o.op = .store t x v) {b : Nat} {cur : Array Value} {t' : TypeId} (hb : w.heap[b]? = some (.cells cur t' (0, 0)))
    (hx : a.eval x = .pointer (some ⟨b, 0, none⟩)) (cs : Array Value) (hv : a.eval v = .agg cs) (hi : (P.info? t).map (·.size) = some cs.size) (hs : cur.size = cs.size) (h1 : ∀ u ∈ cs.toList, u.oneCell' = true)
    (h : ∀ w', w'.heap[b]? = some (.cells cs t' (0, 0)) → w.grownBy w' (some b) → w'.heap.size = w.heap.size → wpList P ops Q rest (a.put o.dst undef) w') : wpList P ops Q (o :: rest) a w := by
  refine wpList_plain hg fun K' hK' => ?_
  unfold Oper.wp execOp
  have hst : (storeCells ⟨b, 0, none⟩ cs.toList).run P w = .ok () (w.setRow b cs) := by
    have := run_storeCells_from (P := P) b t' cs.toList 0 cur w hb (by simp [hs]) h1
    simpa [hs] using this
  have hsv : (storeVar t ⟨b, 0, none⟩ (.agg cs)).run P w = .ok () (w.setRow b cs) := by
    unfold storeVar
    simp only [Sem.run_bind, sizeOf_of hi, Result.andThen, Value.cells, ne_eq, not_true_eq_false, if_false, hst]
  simp only [hop, hx, hv, Instr.storeAt, Instr.sureAddr, Sem.run_bind, Sem.run_pure, Result.andThen_ok, hsv]
  exact hK' _ _ (h _ (setRow_heap w b cur cs t' (0, 0) hb) ⟨rfl, rfl, rfl, by simp, fun k _ hk => setRow_other w b k _ (fun e => hk (by rw [e]))⟩ (by simp))

/-! ### an array that is filled from its beginning on -/
def fillA (l : List UInt32) (n : Nat) : Array Value := (l.map vw ++ List.replicate (n - l.length) (Value.int .u32 0)).toArray

def Filled (w : World) (b : Nat) (t : TypeId) (l : List UInt32) (n : Nat) : Prop := l.length ≤ n ∧ w.heap[b]? = some (.cells (fillA l n) t (0, 0))

section
variable {w w' : World} {b n : Nat} {t : TypeId} {l : List UInt32}

theorem Filled.lt (h : Filled w b t l n) : b < w.heap.size := (Array.getElem?_eq_some_iff.1 h.2).1
theorem Filled.of_block (h : Filled w b t l n) (hb : w'.heap[b]? = w.heap[b]?) : Filled w' b t l n := ⟨h.1, hb.trans h.2⟩

theorem Filled.get (h : Filled w b t l n) {i : Nat} (hi : i < l.length) : w.cell? ⟨b, i, none⟩ = some (vw (l.getD i 0)) := by
  simp only [World.cell?, h.2, fillA]
  simp only [Option.isSome_none, Bool.false_eq_true, if_false, List.getElem?_toArray]
  rw [List.getElem?_append_left (by simpa using hi)]
  simp [hi, List.getD]

theorem Filled.free (h : Filled w b t l n) {i : Nat} (hi : i < n) : (∃ v, w.cell? ⟨b, i, none⟩ = some v) ∧ w.frozen? ⟨b, i, none⟩ = false := by
  constructor
  · simp only [World.cell?, h.2, fillA]
    have hs : i < (l.map vw ++ List.replicate (n - l.length) (Value.int .u32 0)).toArray.size := by
      have := h.1
      simp
      omega
    exact ⟨_, by simp only [Option.isSome_none, Bool.false_eq_true, if_false]; exact Array.getElem?_eq_getElem hs⟩
  · simp [World.frozen?, h.2]

theorem Filled.push (h : Filled w b t l n) (hl : l.length < n) (x : UInt32) : Filled (w.setCell ⟨b, l.length, none⟩ (vw x)) b t (l ++ [x]) n := by
  refine ⟨by simp; omega, ?_⟩
  rw [setCell_eq_setRow w b l.length (fillA l n) t (0, 0) _ h.2, setRow_heap w b (fillA l n) _ t (0, 0) h.2]
  congr 2
  unfold fillA
  apply Array.ext'
  simp only [Array.toList_setIfInBounds, List.length_append, List.length_cons, List.length_nil, Nat.zero_add, List.map_append, List.map_cons, List.map_nil]
  obtain ⟨k, hk⟩ : ∃ k, n - l.length = k + 1 := ⟨n - l.length - 1, by omega⟩
  rw [hk, show n - (l.length + 1) = k by omega, List.replicate_succ, List.set_append_right _ _ (by simp)]
  simp
end
end Go.Proofs.YtfoifdhcelcgiaaGreatDoor

/- A REGION THAT DRAWS ITS ORDER: its quiet operations in the order of the text, then its last operations in one forced order; some operations that look at no world may stand anywhere. -/
namespace Go.Proofs.YtfoifdhcelcgiaaGreatDoor
open Go

theorem wp_region_tail {P : Program} {id : Nat} {Q : Exit → Act → World → Prop} {a : Act} {w : World} {l : List Oper} (n : Nat) (hm : P.follows .mixedOrders = true) (hB : Region.lexTailB .any l.toArray n = true)
    (h : wpStill P l.toArray w.drew (fun a' => wpList P l.toArray Q (l.drop n) a' w.drew) (l.take n) a) : (Code.region id l.toArray true).wp P Q a w :=
  wp_region_still_tail n hm hB h

section
variable {P : Program} {ops : Array Oper} {md : Region.Mode} {w : World}

def sinkF (md : Region.Mode) (ops : Array Oper) (n : Nat) (L0 : Array Bool) : Bool :=
  (List.range n).all fun i => L0.getD i true || (List.range (n + 1)).any fun j => decide (i < j) && Region.waitsFor md ops j i

structure InvF (md : Region.Mode) (ops : Array Oper) (n : Nat) (L0 listed : Array Bool) : Prop where
  inv : HeadInv md ops n listed
  free : ∀ i, L0.getD i true = true → listed.getD i true = true

theorem InvF.set {n i : Nat} {L0 listed : Array Bool} (h : InvF md ops n L0 listed) (hi : i ∈ Region.ready md ops listed) (hin : i < n) : InvF md ops n L0 (listed.setIfInBounds i true) :=
  ⟨h.inv.set hi hin, fun j hj => by
    by_cases hij : i = j
    · subst hij
      have h1 := (mem_ready.1 hi).1
      rw [h.free i hj] at h1
      cases h1
    · rw [getD_set_ne true hij]; exact h.free j hj⟩

theorem tail_waitsF {n : Nat} {L0 listed : Array Bool} (hs : sinkF md ops n L0 = true) (hc : Region.chainB md ops n = true) (hn : n < ops.size) (h : InvF md ops n L0 listed) :
    ∀ (d i : Nat), n - i = d → i < n → listed.getD i true = false → ∀ t, n ≤ t → t ∉ Region.ready md ops listed := by
  intro d
  induction d using Nat.strongRecOn with
  | _ d ih =>
    intro i hd hi hun t ht hr
    obtain ⟨_, ot, hot, hall⟩ := mem_ready.1 hr
    have htlt : t < ops.size := (Array.getElem?_eq_some_iff.1 hot).1
    by_cases htn : t = n
    · subst htn
      have h1 := List.all_eq_true.1 hs i (List.mem_range.2 hi)
      rw [Bool.or_eq_true] at h1
      have h1 : ((List.range (t + 1)).any fun j => decide (i < j) && Region.waitsFor md ops j i) = true := h1.resolve_left (fun e => by rw [h.free i e] at hun; cases hun)
      obtain ⟨j, hj, hj2⟩ := List.any_eq_true.1 h1
      simp only [Bool.and_eq_true, decide_eq_true_eq] at hj2
      obtain ⟨oj, hoj, e, he, hb, hon⟩ := Region.waitsFor_spec hj2.2
      have hjle : j ≤ t := by have := List.mem_range.1 hj; omega
      by_cases hjt : j = t
      · subst hjt
        have : oj = ot := Option.some.inj (hoj.symm.trans hot)
        subst this
        have h2 := hall e he hb
        rw [hon, getD_both hun] at h2
        cases h2
      · cases hl : listed.getD j false with
        | true =>
          have h2 := h.inv.closed j oj hoj hl e he hb
          rw [hon, getD_both hun] at h2
          cases h2
        | false =>
          have hjs : j < listed.size := by rw [h.inv.size]; omega
          exact ih (t - j) (by omega) j rfl (by omega) (getD_in hjs hl) t (Nat.le_refl _) hr
    · have h1 := List.all_eq_true.1 hc t (List.mem_range.2 htlt)
      simp only [Bool.or_eq_true, decide_eq_true_eq] at h1
      rcases h1 with h1 | h1
      · omega
      · obtain ⟨o', ho', e, he, hb, hon⟩ := Region.waitsFor_spec h1
        have : o' = ot := Option.some.inj (ho'.symm.trans hot)
        subst this
        have h2 := hall e he hb
        rw [hon, getD_both (h.inv.tail (t - 1) (by omega) (by omega))] at h2
        cases h2

theorem wpAnyL_firstF {n i : Nat} {oi : Oper} {v : Value} {L0 : Array Bool} {L : Array Bool → Act → Prop} (hi : ops[i]? = some oi) (hsel : ∀ (j : Nat) (o : Oper) cs b, ops[j]? = some o → o.op ≠ .select cs b)
    (hs : sinkF md ops n L0 = true) (hc : Region.chainB md ops n = true) (hn : n < ops.size) (hin : i < n)
    (hdone : ∀ listed a, L listed a → ∀ j ∈ Region.ready md ops listed, n ≤ j) :
    ∀ (f : Nat) (listed : Array Bool) (a : Act), InvF md ops n L0 listed →
      (∀ j oj, ops[j]? = some oj → j ≠ i → listed.getD j true = false → (∀ e ∈ oj.after, Region.binds md e = true → e.on ≠ i) → oi.apart ops oj = true) →
      i ∈ Region.ready md ops listed → YieldsAt P ops w oi v a →
      wpAnyL P md ops w n L f (listed.setIfInBounds i true) (a.put oi.dst v) → wpAnyL P md ops w n L (f + 1) listed a := by
  intro f
  induction f with
  | zero =>
    intro listed a inv _ hr hy H
    have hun := (mem_ready.1 hr).1
    refine ⟨fun h => (by rw [h] at hr; cases hr), fun j hj => ?_⟩
    have hjn : j < n := by
      rcases Nat.lt_or_ge j n with h | h
      · exact h
      · exact absurd hj (tail_waitsF hs hc hn inv _ i rfl hin hun j h)
    refine ⟨hjn, ?_⟩
    by_cases hji : j = i
    · subst hji; exact hy.stOp hi H
    · have := hdone _ _ H j (ready_mono hj hji)
      omega
  | succ f ih =>
    intro listed a inv hfree hr hy H
    have hun := (mem_ready.1 hr).1
    refine ⟨fun h => (by rw [h] at hr; cases hr), fun j hj => ?_⟩
    have hjn : j < n := by
      rcases Nat.lt_or_ge j n with h | h
      · exact h
      · exact absurd hj (tail_waitsF hs hc hn inv _ i rfl hin hun j h)
    refine ⟨hjn, ?_⟩
    by_cases hji : j = i
    · subst hji; exact hy.stOp hi H
    · have h1 := (H.2 j (ready_mono hj hji)).2
      obtain ⟨hjun, oj, hoj, hall⟩ := mem_ready.1 hj
      have hnot : ∀ e ∈ oj.after, Region.binds md e = true → e.on ≠ i := fun e he hb heq => by
        have h1 := hall e he hb
        rw [heq, getD_both hun] at h1
        cases h1
      have h2 := stOp_put hoj (hfree j oj hoj hji hjun hnot) (fun cs b => hsel i oi cs b hi) (fun cs b => hsel j oj cs b hoj) hy h1
      have hfree' : ∀ k ok, ops[k]? = some ok → k ≠ i → (listed.setIfInBounds j true).getD k true = false →
          (∀ e ∈ ok.after, Region.binds md e = true → e.on ≠ i) → oi.apart ops ok = true := fun k ok hk hki hun hno => by
        refine hfree k ok hk hki ?_ hno
        by_cases hjk : j = k
        · subst hjk; exact hjun
        · rw [getD_set_ne true hjk] at hun; exact hun
      refine stOp_mono (fun a' h3 => ih (listed.setIfInBounds j true) a' (inv.set hj hjn) hfree' (ready_mono hr (Ne.symm hji)) h3.1 ?_) h2
      rw [Array.setIfInBounds_comm _ _ hji]
      exact h3.2

/-- how many of the head are still to come -/
def cntF (L0 : Array Bool) : Nat → Nat → Nat
  | 0, _ => 0
  | f + 1, k => if L0.getD k true then cntF L0 f (k + 1) else cntF L0 f (k + 1) + 1

def lexF (md : Region.Mode) (ops : Array Oper) (L0 : Array Bool) (g : Nat) : Nat → Nat → Array Bool → Bool
  | 0, k, listed => Region.seqB md ops g k listed
  | f + 1, k, listed => if L0.getD k true then lexF md ops L0 g f (k + 1) listed else (Region.ready md ops listed).contains k && Region.free md ops listed k && lexF md ops L0 g f (k + 1) (listed.setIfInBounds k true)

def wpStillF (P : Program) (ops : Array Oper) (w : World) (L0 : Array Bool) (Q : Act → Prop) : Nat → List Oper → Act → Prop
  | _, [], a => Q a
  | k, o :: rest, a => if L0.getD k true then wpStillF P ops w L0 Q (k + 1) rest a else
      if Region.wanted o (yielded ops a.tmps) then o.still P a w (wpStillF P ops w L0 Q (k + 1) rest) else wpStillF P ops w L0 Q (k + 1) rest (a.put o.dst undef)

theorem wpStillF_nil {L0 : Array Bool} {Q : Act → Prop} {k : Nat} {a : Act} (h : Q a) : wpStillF P ops w L0 Q k [] a := h

theorem wpStillF_skip {L0 : Array Bool} {Q : Act → Prop} {k : Nat} {o : Oper} {rest : List Oper} {a : Act} (hk : L0.getD k true = true) (h : wpStillF P ops w L0 Q (k + 1) rest a) : wpStillF P ops w L0 Q k (o :: rest) a := by
  unfold wpStillF
  rw [if_pos hk]
  exact h

theorem wpStillF_step {L0 : Array Bool} {Q : Act → Prop} {k : Nat} {o : Oper} {rest : List Oper} {a : Act} (hk : L0.getD k true = false)
    (h : ∀ K : Act → Prop, (∀ a', wpStillF P ops w L0 Q (k + 1) rest a' → K a') → if Region.wanted o (yielded ops a.tmps) then o.still P a w K else K (a.put o.dst undef)) : wpStillF P ops w L0 Q k (o :: rest) a := by
  unfold wpStillF
  rw [if_neg (by rw [hk]; simp)]
  exact h _ (fun _ h => h)

theorem wpAnyL_lexF {n g : Nat} {L0 : Array Bool} {Lq : Act → Prop} (hsel : Region.noSelect ops = true) (hs : sinkF md ops n L0 = true) (hc : Region.chainB md ops n = true) (hn : n < ops.size) :
    ∀ (l : List Oper) (k : Nat) (listed : Array Bool) (a : Act), (∀ j, j < l.length → l[j]? = ops[k + j]?) → k + l.length = n → InvF md ops n L0 listed →
    lexF md ops L0 g l.length k listed = true → wpStillF P ops w L0 Lq k l a →
    wpAnyL P md ops w n (fun listed' a' => Region.seqB md ops g n listed' = true ∧ Lq a') (cntF L0 l.length k) listed a
  | [], k, listed, a, _, hk, _, hB, h => by
    have : k = n := by simpa using hk
    subst this
    exact ⟨by simpa [lexF] using hB, h⟩
  | o :: l, k, listed, a, hl, hk, inv, hB, h => by
    have h0 : ops[k]? = some o := by simpa using (hl 0 (by simp)).symm
    have hl' : ∀ j, j < l.length → l[j]? = ops[k + 1 + j]? := fun j hj => by have := hl (j + 1) (by simp; omega); simpa [Nat.add_assoc, Nat.add_comm 1 j] using this
    have hk' : k + 1 + l.length = n := by simp only [List.length_cons] at hk; omega
    simp only [List.length_cons, lexF] at hB
    simp only [List.length_cons, cntF]
    unfold wpStillF at h
    by_cases hf0 : L0.getD k true = true
    · rw [if_pos hf0] at hB h ⊢
      exact wpAnyL_lexF hsel hs hc hn l (k + 1) listed a hl' hk' inv hB h
    · rw [if_neg hf0] at hB h ⊢
      simp only [Bool.and_eq_true] at hB
      obtain ⟨⟨hr, hf⟩, hB'⟩ := hB
      have hkn : k < n := by simp only [List.length_cons] at hk; omega
      have hr' : k ∈ Region.ready md ops listed := by simpa using hr
      have hst : stOp P ops w k (wpStillF P ops w L0 Lq (k + 1) l) a := by unfold stOp; simp only [h0]; exact h
      obtain ⟨v, hy, hK⟩ := yieldsAt_of_stOp h0 hst
      exact wpAnyL_firstF h0 (Region.noSelect_spec hsel) hs hc hn hkn (fun listed' a' hL => seqB_ready hL.1) _ listed a inv (Region.free_spec h0 hf) hr' hy
        (wpAnyL_lexF hsel hs hc hn l (k + 1) _ _ hl' hk' (inv.set hr' hkn) hB' hK)

def closedF (md : Region.Mode) (ops : Array Oper) (L0 : Array Bool) : Bool :=
  (List.range ops.size).all fun j => !L0.getD j false || match ops[j]? with
    | some oj => oj.after.all fun e => !Region.binds md e || L0.getD e.on false
    | none => true

def tailF (md : Region.Mode) (ops : Array Oper) (n : Nat) (L0 : Array Bool) : Bool :=
  Region.noSelect ops && decide (n < ops.size) && decide (L0.size = ops.size) && sinkF md ops n L0 && Region.chainB md ops n && closedF md ops L0 &&
    ((List.range ops.size).all fun t => decide (t < n) || !L0.getD t true) && lexF md ops L0 (ops.size - n) n 0 L0

theorem wpAny_tailF {Q : Exit → Act → World → Prop} {a : Act} {l : List Oper} {fuel : Nat} {L0 : Array Bool} (n : Nat) (hB : tailF md l.toArray n L0 = true) (hfuel : fuel = cntF L0 (l.take n).length 0 + (l.drop n).length)
    (h : wpStillF P l.toArray w L0 (fun a' => wpList P l.toArray Q (l.drop n) a' w) 0 (l.take n) a) : wpAny P md l.toArray Q fuel L0 a w := by
  unfold tailF at hB
  simp only [Bool.and_eq_true, decide_eq_true_eq] at hB
  obtain ⟨⟨⟨⟨⟨⟨⟨hsel, hn⟩, hsz⟩, hs⟩, hc⟩, hcl⟩, htl⟩, hlex⟩ := hB
  have hn' : n < l.length := by simpa using hn
  have htk : (l.take n).length = n := by simp; omega
  have hdl : (l.drop n).length = l.toArray.size - n := by simp
  have inv0 : InvF md l.toArray n L0 L0 := by
    refine ⟨⟨hsz, fun j oj hj hl e he hb => ?_, fun t ht ht' => ?_⟩, fun i h => h⟩
    · have h1 := List.all_eq_true.1 hcl j (List.mem_range.2 (Array.getElem?_eq_some_iff.1 hj).1)
      rw [hl, hj] at h1
      simp only [Bool.not_true, Bool.false_or] at h1
      obtain ⟨i, hi, rfl⟩ := Array.getElem_of_mem he
      have h2 := Array.all_eq_true.1 h1 i hi
      rw [hb] at h2
      simpa using h2
    · have h1 := List.all_eq_true.1 htl t (List.mem_range.2 ht')
      rw [Bool.or_eq_true, decide_eq_true_eq] at h1
      rcases h1 with h1 | h1
      · omega
      · simpa using h1
  have H := wpAnyL_lexF (md := md) (g := l.toArray.size - n) hsel hs hc hn (l.take n) 0 _ a (fun j hj => by
    have hj' : j < n := by rw [htk] at hj; exact hj
    simp [hj']) (by rw [htk]; omega) inv0 (by rw [htk]; exact hlex) h
  have := wpAny_of_head (Q' := Q) (g := l.toArray.size - n) (fun listed a' hL => by
    have := wpAny_of_seq (md := md) (Q' := Q) (l.drop n) n listed a' w (fun j => by simp [List.getElem?_drop]) (by rw [hdl]; exact hL.1) hL.2
    rwa [hdl] at this) _ _ _ H
  rw [hfuel, hdl]
  exact this

/-- a move, whenever -/
theorem wpAny_move {Q : Exit → Act → World → Prop} {i : Nat} {oi : Oper} {fuel : Nat} {listed : Array Bool} {a : Act} (x : Operand) (hi : ops[i]? = some oi) (hop : oi.op = Op.move x) (hg : oi.guard = none)
    (hs : Region.noSelect ops = true) (hf : Region.free md ops listed i = true) (hr : (Region.ready md ops listed).contains i = true)
    (hQ' : ∀ v c a w, Q (.panic c) (a.put oi.dst v) w → Q (.panic c) a w)
    (h : wpAny P md ops Q fuel (listed.setIfInBounds i true) (a.put oi.dst (a.eval x)) w) : wpAny P md ops Q (fuel + 1) listed a w :=
  wpAny_take hi hs hf hr (hQ' _) (Or.inl ⟨by simp [Region.wanted, hg], fun w => by simp [execOp, hop]⟩) h
end
end Go.Proofs.YtfoifdhcelcgiaaGreatDoor
