/-
  A MAP'S BLOCK AS A LIST OF PAIRS OF VALUES, IN SOME ORDER: look-up, store, delete, m[k]++, range. Program-independent.
-/
import Derived.Maps.RangeWalk
import Derived.Maps.OwnSet
import Derived.WalkKit
namespace Go.Proofs.Ytamnffcafbfojaa
open Go Go.MapKept Go.ChangeMaps Go.RowKit
open Go.Maps (Keyed)

/-- block b of w is a map that holds just the pairs of L, in some order -/
def hasMap (P : Program) (k : TypeId) (w : World) (b : Nat) (L : List (Value × Value)) : Prop :=
  ∃ es clock, w.heap[b]? = some (.map es clock) ∧ Stamped es clock ∧ (∀ x ∈ es.toList, ∃ l, keyOf P k x.key = some l) ∧ (es.toList.map fun x => (x.key, x.val)).Perm L

section
variable {P : Program} {k : TypeId} {w w' : World} {b : Nat} {L L' : List (Value × Value)}

theorem hasMap.perm (h : hasMap P k w b L) (hp : L.Perm L') : hasMap P k w b L' := by
  obtain ⟨es, clock, h1, h2, h3, h4⟩ := h
  exact ⟨es, clock, h1, h2, h3, h4.trans hp⟩

theorem hasMap.lt (h : hasMap P k w b L) : b < w.heap.size := by
  obtain ⟨es, clock, h1, _⟩ := h
  exact (Array.getElem?_eq_some_iff.1 h1).1

theorem hasMap.of_block (h : hasMap P k w b L) (hb : w'.heap[b]? = w.heap[b]?) : hasMap P k w' b L := by
  obtain ⟨es, clock, h1, h2⟩ := h
  exact ⟨es, clock, hb.trans h1, h2⟩

theorem hasMap.nodup (h : hasMap P k w b L) : (L.map (·.1)).Nodup := by
  obtain ⟨es, clock, _, h2, _, h4⟩ := h
  have h5 := h4.map (·.1)
  rw [List.map_map] at h5
  exact h5.nodup_iff.1 h2.2.2

theorem hasMap.keys (h : hasMap P k w b L) : ∀ p ∈ L, ∃ l, keyOf P k p.1 = some l := by
  obtain ⟨es, clock, _, _, h3, h4⟩ := h
  intro p hp
  obtain ⟨x, hx, rfl⟩ := List.mem_map.1 (h4.mem_iff.2 hp)
  exact h3 x hx

theorem hasMap_made (P : Program) (k : TypeId) (w : World) : hasMap P k (w.alloc (.map #[] 0)) w.heap.size [] :=
  ⟨#[], 0, (MapKept.heap_alloc w _).1, stamped_empty 0, by simp, by simp⟩

/-- a look-up -/
theorem hasMap.look {t e : TypeId} (h : hasMap P k w b L) (K : Keyed P k) (ht : P.underlying t = some (.map k e)) {z : Value} (hz : (zeroValue e).run P w = .ok z w) {key : Value} {kl : Lit} (hkey : keyOf P k key = some kl) (c : Bool) :
    ((∀ v, (key, v) ∉ L) ∧ (Instr.lookup t (.map (some b)) key c).run P w = .ok (if c then .tuple #[z, .bool false] else z) w) ∨
    ∃ v, (key, v) ∈ L ∧ (Instr.lookup t (.map (some b)) key c).run P w = .ok (if c then .tuple #[v, .bool true] else v) w := by
  obtain ⟨es, clock, hb, hs, hk, hp⟩ := h
  rcases K.find w hkey es.toList hk with ⟨h1, h2⟩ | ⟨j, e0, h1, h2, h3⟩
  · refine Or.inl ⟨fun v hv => ?_, by simp [Instr.lookup, run_underlying ht, MapKept.run_getObj_map hb, K.check w _ hkey, h1, hz, Result.andThen]⟩
    obtain ⟨x, hx, he⟩ := List.mem_map.1 (hp.mem_iff.2 hv)
    exact h2 x hx (congrArg Prod.fst he)
  · refine Or.inr ⟨e0.val, hp.mem_iff.1 (List.mem_map.2 ⟨e0, List.mem_of_getElem? h2, by rw [h3]⟩), by simp [Instr.lookup, run_underlying ht, MapKept.run_getObj_map hb, K.check w _ hkey, h1, Result.andThen]⟩

theorem perm_set {α : Type} : ∀ (l : List α) (j : Nat) (x y : α), l[j]? = some x → (l.set j y).Perm (y :: l.eraseIdx j) ∧ l.Perm (x :: l.eraseIdx j)
  | [], _, _, _, h => by simp at h
  | a :: r, 0, x, y, h => by simp at h; subst h; simp
  | a :: r, j + 1, x, y, h => by
    simp at h
    obtain ⟨h1, h2⟩ := perm_set r j x y h
    simp only [List.set_cons_succ, List.eraseIdx_cons_succ]
    exact ⟨(h1.cons a).trans (List.Perm.swap _ _ _), (h2.cons a).trans (List.Perm.swap _ _ _)⟩

/-- R is what is left of L when the pair at this key, if there is one, is taken away -/
def restAt (L : List (Value × Value)) (key : Value) (R : List (Value × Value)) : Prop := (∃ v, L.Perm ((key, v) :: R)) ∨ (L.Perm R ∧ ∀ v, (key, v) ∉ L)

theorem restAt_perm {key : Value} {R R' : List (Value × Value)} (hd : (L.map (·.1)).Nodup) (h : restAt L key R) (h' : restAt L key R') : R.Perm R' := by
  have hdr : ∀ {v u : Value}, (key, v) ∈ L → (key, u) ∈ L → v = u := by
    clear h h'
    induction L with
    | nil => intro v u hv; simp at hv
    | cons a r ih =>
      intro v u hv hu
      simp only [List.map_cons, List.nodup_cons] at hd
      rcases List.mem_cons.1 hv with hv | hv
      · rcases List.mem_cons.1 hu with hu | hu
        · rw [← hv] at hu; exact (Prod.mk.inj hu).2.symm
        · exact absurd (List.mem_map.2 ⟨_, hu, by rw [← hv]⟩) hd.1
      · rcases List.mem_cons.1 hu with hu | hu
        · exact absurd (List.mem_map.2 ⟨_, hv, by rw [← hu]⟩) hd.1
        · exact ih hd.2 hv hu
  rcases h with ⟨v, h⟩ | ⟨h, hn⟩ <;> rcases h' with ⟨u, h'⟩ | ⟨h', hn'⟩
  · have : v = u := hdr (h.mem_iff.2 (by simp)) (h'.mem_iff.2 (by simp))
    subst this
    exact (List.perm_cons _).1 (h.symm.trans h')
  · exact absurd (h.mem_iff.2 (by simp)) (hn' v)
  · exact absurd (h'.mem_iff.2 (by simp)) (hn u)
  · exact h.symm.trans h'

/-- a store -/
theorem hasMap.store {t e : TypeId} (h : hasMap P k w b L) (K : Keyed P k) (ht : P.underlying t = some (.map k e)) {key val : Value} {kl : Lit} (hkey : keyOf P k key = some kl) :
    ∃ w', (Instr.mapUpdate t (.map (some b)) key val).run P w = .ok () w' ∧ w.grownBy w' (some b) ∧ w'.heap.size = w.heap.size ∧ ∀ R, restAt L key R → hasMap P k w' b ((key, val) :: R) := by
  have hnd := h.nodup
  obtain ⟨es, clock, hb, hs, hk, hp⟩ := h
  have grown : ∀ es' clock', w.grownBy (setBlock w b (.map es' clock')) (some b) := fun es' clock' =>
    ⟨rfl, rfl, rfl, by simp [setBlock], fun i _ hi => heap_setBlock_other hb _ (fun e => hi (by rw [e]))⟩
  rcases K.find w hkey es.toList hk with ⟨h1, h2⟩ | ⟨j, e0, h1, h2, h3⟩
  · refine ⟨setBlock w b (.map (es.push ⟨key, val, clock⟩) (clock + 1)), by simp [Instr.mapUpdate, run_underlying ht, MapKept.run_getObj_map hb, K.check w false hkey, h1, MapKept.run_setObj_map _ hb, Result.andThen, setBlock], grown _ _, by simp [setBlock], fun R hR => ?_⟩
    have hno : ∀ v, (key, v) ∉ L := fun v hv => by
      obtain ⟨x, hx, he⟩ := List.mem_map.1 (hp.mem_iff.2 hv)
      exact h2 x hx (congrArg Prod.fst he)
    have hR' : L.Perm R := (restAt_perm hnd (Or.inr ⟨List.Perm.refl _, hno⟩) hR)
    refine ⟨_, _, heap_setBlock_same hb _, stamped_push hs h2, ?_, ?_⟩
    · intro x hx
      simp only [Array.toList_push, List.mem_append, List.mem_singleton] at hx
      rcases hx with hx | rfl
      · exact hk x hx
      · exact ⟨_, hkey⟩
    · simp only [Array.toList_push, List.map_append, List.map_cons, List.map_nil]
      exact (List.perm_append_singleton _ _).trans ((hp.trans hR').cons _)
  · have hj : es[j]? = some e0 := by simpa using h2
    refine ⟨setBlock w b (.map (es.modify j (fun e' => { e' with key := key, val := val })) clock), by simp [Instr.mapUpdate, run_underlying ht, MapKept.run_getObj_map hb, K.check w false hkey, h1, hj, h3, K.stays w hkey, MapKept.run_setObj_map _ hb, Result.andThen, setBlock], grown _ _, by simp [setBlock], fun R hR => ?_⟩
    have hlist : (es.modify j (fun e' => { e' with key := key, val := val })).toList = es.toList.set j { e0 with key := key, val := val } := by rw [Array.toList_modify, modify_eq_set _ _ _ _ h2]
    have hmap : (es.toList.map fun x => (x.key, x.val))[j]? = some (key, e0.val) := by simp [hj, h3]
    have hps := perm_set _ j (key, e0.val) (key, val) hmap
    have hR' := restAt_perm hnd (Or.inl ⟨e0.val, hp.symm.trans hps.2⟩) hR
    refine ⟨_, _, heap_setBlock_same hb _, stamped_modify hs _ _ (fun _ _ => rfl) (fun e' _ he' => by rw [hj] at he'; cases he'; exact h3.symm), ?_, ?_⟩
    · intro x hx
      rw [hlist] at hx
      rcases List.mem_or_eq_of_mem_set hx with hx | rfl
      · exact hk x hx
      · exact ⟨_, hkey⟩
    · rw [hlist, List.map_set]
      exact hps.1.trans (hR'.cons _)

/-- delete(m, k) -/
theorem hasMap.drop {t e : TypeId} (h : hasMap P k w b L) (K : Keyed P k) (ht : P.underlying t = some (.map k e)) {key : Value} {kl : Lit} (hkey : keyOf P k key = some kl) (ty : TypeId) :
    ∃ w', (Builtin.delete_ #[t, k] ty #[.map (some b), key]).run P w = .ok (.tuple #[]) w' ∧ w.grownBy w' (some b) ∧ w'.heap.size = w.heap.size ∧ ∀ R, restAt L key R → hasMap P k w' b R := by
  have hnd := h.nodup
  obtain ⟨es, clock, hb, hs, hk, hp⟩ := h
  have grown : ∀ es' clock', w.grownBy (setBlock w b (.map es' clock')) (some b) := fun es' clock' =>
    ⟨rfl, rfl, rfl, by simp [setBlock], fun i _ hi => heap_setBlock_other hb _ (fun e => hi (by rw [e]))⟩
  rcases K.find w hkey es.toList hk with ⟨h1, h2⟩ | ⟨j, e0, h1, h2, h3⟩
  · refine ⟨setBlock w b (.map es clock), by simp [Builtin.delete_, run_underlying ht, MapKept.run_getObj_map hb, K.check w _ hkey, h1, MapKept.run_setObj_map _ hb, Result.andThen, setBlock], grown _ _, by simp [setBlock], fun R hR => ?_⟩
    have hno : ∀ v, (key, v) ∉ L := fun v hv => by
      obtain ⟨x, hx, he⟩ := List.mem_map.1 (hp.mem_iff.2 hv)
      exact h2 x hx (congrArg Prod.fst he)
    exact ⟨es, clock, heap_setBlock_same hb _, hs, hk, hp.trans (restAt_perm hnd (Or.inr ⟨List.Perm.refl _, hno⟩) hR)⟩
  · have hjl : j < es.toList.length := (List.getElem?_eq_some_iff.1 h2).1
    have hjs : j < es.size := by simpa using hjl
    have hj : es[j]? = some e0 := by simpa using h2
    have hsub : (es.eraseIdxIfInBounds j).toList = es.toList.eraseIdx j := by
      unfold Array.eraseIdxIfInBounds
      rw [dif_pos hjs]
      simp
    have hmap : (es.toList.map fun x => (x.key, x.val))[j]? = some (key, e0.val) := by simp [hj, h3]
    have hps := perm_set _ j (key, e0.val) (key, e0.val) hmap
    refine ⟨setBlock w b (.map (es.eraseIdxIfInBounds j) clock), by simp [Builtin.delete_, run_underlying ht, MapKept.run_getObj_map hb, K.check w _ hkey, h1, MapKept.run_setObj_map _ hb, Result.andThen, setBlock], grown _ _, by simp [setBlock], fun R hR => ?_⟩
    refine ⟨_, _, heap_setBlock_same hb _, stamped_erase hs j, ?_, ?_⟩
    · intro x hx
      rw [hsub] at hx
      exact hk x ((List.eraseIdx_sublist _ _).subset hx)
    · rw [hsub, map_eraseIdx]
      exact restAt_perm hnd (Or.inl ⟨e0.val, hp.symm.trans hps.2⟩) hR

end

/-! ### at the operations, for the walk -/
section
variable {P : Program} (w : World) {ops : Array Oper} {rest : List Oper} {o : Oper} {a : Act} {Q : Exit → Act → World → Prop}

/-- m[k], with or without ok -/
theorem wpList_look (hg : o.guard = none) (m x : Operand) (t : TypeId) (c : Bool) (hop : o.op = Op.lookup t m x c)
    (k e : TypeId) (K : Keyed P k) (ht : P.underlying t = some (.map k e)) (z : Value) (hz : (zeroValue e).run P w = .ok z w) (b : Nat) (L : List (Value × Value))
    (hm : a.eval m = .map (some b)) (hown : hasMap P k w b L) (key : Value) (kl : Lit) (hx : a.eval x = key) (hkey : keyOf P k key = some kl)
    (hno : (∀ v, (key, v) ∉ L) → wpList P ops Q rest (a.put o.dst (if c then .tuple #[z, .bool false] else z)) w)
    (hyes : ∀ v, (key, v) ∈ L → wpList P ops Q rest (a.put o.dst (if c then .tuple #[v, .bool true] else v)) w) :
    wpList P ops Q (o :: rest) a w := by
  refine wpList_plain hg fun K' hK' => ?_
  rcases hown.look K ht hz hkey c with ⟨h1, hrun⟩ | ⟨v, h1, hrun⟩
  · unfold Oper.wp
    simp [execOp, hop, hm, hx, hrun, Result.andThen]
    exact hK' _ _ (hno h1)
  · unfold Oper.wp
    simp [execOp, hop, hm, hx, hrun, Result.andThen]
    exact hK' _ _ (hyes v h1)

/-- m[k] = v -/
theorem wpList_store (hg : o.guard = none) (m x v : Operand) (t : TypeId) (hop : o.op = Op.mapUpdate t m x v)
    (k e : TypeId) (K : Keyed P k) (ht : P.underlying t = some (.map k e)) (b : Nat) (L : List (Value × Value))
    (hm : a.eval m = .map (some b)) (hown : hasMap P k w b L) (key val : Value) (kl : Lit) (hx : a.eval x = key) (hv : a.eval v = val) (hkey : keyOf P k key = some kl)
    (hK : ∀ w', w.grownBy w' (some b) → w'.heap.size = w.heap.size → (∀ R, restAt L key R → hasMap P k w' b ((key, val) :: R)) → wpList P ops Q rest (a.put o.dst undef) w') :
    wpList P ops Q (o :: rest) a w := by
  refine wpList_plain hg fun K' hK' => ?_
  obtain ⟨w', hrun, r1, r2, r3⟩ := hown.store K ht (val := val) hkey
  unfold Oper.wp
  simp [execOp, hop, hm, hx, hv, hrun, Result.andThen]
  exact hK' _ _ (hK w' r1 r2 r3)

/-- delete(m, k) -/
theorem wpList_drop (hg : o.guard = none) (m x : Operand) (t k : TypeId) (hop : o.op = Op.call { callee := Callee.builtin Builtin.delete, args := #[m, x], argTypes := #[t, k] })
    (e : TypeId) (K : Keyed P k) (ht : P.underlying t = some (.map k e)) (b : Nat) (L : List (Value × Value))
    (hm : a.eval m = .map (some b)) (hown : hasMap P k w b L) (key : Value) (kl : Lit) (hx : a.eval x = key) (hkey : keyOf P k key = some kl)
    (hK : ∀ w', w.grownBy w' (some b) → w'.heap.size = w.heap.size → (∀ R, restAt L key R → hasMap P k w' b R) → wpList P ops Q rest (a.put o.dst (.tuple #[])) w') :
    wpList P ops Q (o :: rest) a w := by
  refine wpList_plain hg fun K' hK' => ?_
  obtain ⟨w', hrun, r1, r2, r3⟩ := hown.drop K ht hkey o.type
  unfold Oper.wp
  simp [execOp, hop, resolve, invoke, builtin, hm, hx, hrun, Result.andThen]
  exact hK' _ _ (hK w' r1 r2 r3)

end
end Go.Proofs.Ytamnffcafbfojaa
