/-
  'for k := range m' AND 'm[k]++' OVER 'hasMap': the iterator as a list of what is still to come.
-/
import Derived.Test.YtamnffcafbfojaaMap
import Derived.Deep.Draws
namespace Go.Proofs.Ytamnffcafbfojaa
open Go Go.MapKept Go.ChangeMaps Go.RowKit
open Go.Maps (Keyed)

/-- block r iterates over the map in block b, which holds L; left is still to come -/
def iterOn (P : Program) (k : TypeId) (w : World) (r b : Nat) (L left : List (Value × Value)) : Prop :=
  ∃ es clock since seen c0, w.heap[b]? = some (.map es clock) ∧ Stamped es clock ∧ (∀ x ∈ es.toList, ∃ l, keyOf P k x.key = some l) ∧ (es.toList.map fun x => (x.key, x.val)).Perm L ∧
    w.heap[r]? = some (.mapIter (some b) since seen c0) ∧ (∀ x ∈ es.toList, x.born < since) ∧ since ≤ c0 ∧ since ≤ clock ∧ ((leftOf es seen).toList.map fun x => (x.key, x.val)).Perm left

section
variable {P : Program} {k : TypeId} {w w' : World} {b r : Nat} {L left : List (Value × Value)}

theorem iterOn.hasMap (h : iterOn P k w r b L left) : hasMap P k w b L := by
  obtain ⟨es, clock, _, _, _, h1, h2, h3, h4, _⟩ := h
  exact ⟨es, clock, h1, h2, h3, h4⟩

theorem iterOn.ne (h : iterOn P k w r b L left) : r ≠ b := by
  obtain ⟨es, clock, since, seen, c0, hb, _, _, _, hr, _⟩ := h
  intro e
  rw [e, hb] at hr
  cases hr

theorem iterOn.lt (h : iterOn P k w r b L left) : r < w.heap.size := by
  obtain ⟨es, clock, since, seen, c0, _, _, _, _, hr, _⟩ := h
  exact (Array.getElem?_eq_some_iff.1 hr).1

theorem iterOn.of_block (h : iterOn P k w r b L left) (hb : w'.heap[b]? = w.heap[b]?) (hr : w'.heap[r]? = w.heap[r]?) : iterOn P k w' r b L left := by
  obtain ⟨es, clock, since, seen, c0, h1, h2, h3, h4, h5, h6⟩ := h
  exact ⟨es, clock, since, seen, c0, hb.trans h1, h2, h3, h4, hr.trans h5, h6⟩

theorem iterOn.left_eq (h : iterOn P k w r b L left) : w.rangeLeft b r = left.length := by
  obtain ⟨es, clock, since, seen, c0, hb, _, _, _, hr, _, _, _, hl⟩ := h
  simp only [World.rangeLeft, hb, hr]
  have := hl.length_eq
  simpa using this

theorem hasMap.range {t e : TypeId} (h : Proofs.Ytamnffcafbfojaa.hasMap P k w b L) (ht : P.underlying t = some (.map k e)) :
    ∃ w', (Instr.range t (.map (some b))).run P w = .ok (.pointer (some ⟨w.heap.size, 0, none⟩)) w' ∧ iterOn P k w' w.heap.size b L L ∧ w.grownBy w' none ∧ w'.heap.size = w.heap.size + 1 := by
  have hlt := h.lt
  obtain ⟨es, clock, hb, hs, hk, hp⟩ := h
  refine ⟨_, run_range_map w t k e b es clock ht hb, ⟨es, clock, clock, #[], clock, ((MapKept.heap_alloc w _).2 b hlt).trans hb, hs, hk, hp, (MapKept.heap_alloc w _).1, hs.1, Nat.le_refl _, Nat.le_refl _, ?_⟩, World.grownBy_alloc w _ none, by simp⟩
  have e1 : (leftOf es #[]).toList = es.toList := by simp only [leftOf, Array.toList_filter]; exact List.filter_eq_self.2 (fun x _ => by simp)
  rw [e1]; exact hp

theorem left_step {es : Array MapEntry} {seen : Array Nat} (hs : (es.toList.map (·.born)).Nodup) {e : MapEntry} (he : e ∈ (leftOf es seen).toList) :
    (leftOf es seen).toList.Perm (e :: (leftOf es (seen.push e.born)).toList) := by
  simp only [leftOf, Array.toList_filter] at he ⊢
  generalize es.toList = l at hs he
  clear es
  induction l with
  | nil => simp at he
  | cons x xs ih =>
    simp only [List.map_cons, List.nodup_cons] at hs
    by_cases hx : x = e
    · subst hx
      have hc : seen.contains x.born = false := by simp only [List.mem_filter] at he; simpa using he.2
      have h1 : (seen.push x.born).contains x.born = true := by simp
      simp only [List.filter_cons, hc, h1, Bool.not_false, Bool.not_true, if_true, Bool.false_eq_true, if_false]
      refine List.Perm.cons _ ?_
      have : xs.filter (fun y => !seen.contains y.born) = xs.filter (fun y => !(seen.push x.born).contains y.born) := by
        refine List.filter_congr fun y hy => ?_
        have hne : y.born ≠ x.born := fun h => hs.1 (h ▸ List.mem_map.2 ⟨y, hy, rfl⟩)
        simp [hne]
      rw [this]
    · have he' : e ∈ xs.filter (fun y => !seen.contains y.born) := by
        simp only [List.mem_filter, List.mem_cons] at he ⊢
        exact ⟨he.1.resolve_left (fun h => hx h.symm), he.2⟩
      have hex : e ∈ xs := (List.mem_filter.1 he').1
      have hne : x.born ≠ e.born := fun h => hs.1 (h ▸ List.mem_map.2 ⟨e, hex, rfl⟩)
      have hih := ih hs.2 he'
      by_cases hc : seen.contains x.born = true
      · have h1 : (seen.push e.born).contains x.born = true := by simp at hc ⊢; exact Or.inl hc
        simp only [List.filter_cons, hc, h1, Bool.not_true, Bool.false_eq_true, if_false]
        exact hih
      · have hc' : seen.contains x.born = false := by simpa using hc
        have h1 : (seen.push e.born).contains x.born = false := by simp at hc' ⊢; exact ⟨hc', hne⟩
        simp only [List.filter_cons, hc', h1, Bool.not_false, if_true]
        exact (hih.cons _).trans (List.Perm.swap _ _ _)

theorem iterOn.next (h : iterOn P k w r b L left) (ty : TypeId) :
    (left = [] ∧ (Instr.next (.pointer (some ⟨r, 0, none⟩)) false ty).run P w = .ok (.tuple #[.bool false]) w) ∨
    ∃ p left' w', left.Perm (p :: left') ∧ (Instr.next (.pointer (some ⟨r, 0, none⟩)) false ty).run P w = .ok (.tuple #[.bool true, p.1, p.2]) w' ∧
      iterOn P k w' r b L left' ∧ w.grownBy w' (some r) ∧ w'.heap.size = w.heap.size ∧ (Instr.entry (.pointer (some ⟨r, 0, none⟩))).run P w' = .ok (.tuple #[p.1, p.2]) w' := by
  have hne := h.ne
  obtain ⟨es, clock, since, seen, c0, hb, hs, hk, hp, hr, hold, hsc, hsk, hl⟩ := h
  rcases run_next_at (P := P) w ty r b since c0 seen es clock hr hb hold hsc with ⟨h0, hrun⟩ | ⟨e, he, w1, hal, hrun⟩
  · have h1 : leftOf es seen = #[] := Array.eq_empty_of_size_eq_zero h0
    rw [h1] at hl
    exact Or.inl ⟨by simpa using hl.symm.eq_nil, hrun⟩
  · obtain ⟨hem, hes⟩ := mem_left he
    have hr1 : w1.heap[r]? = some (.mapIter (some b) since seen c0) := by rcases hal with rfl | rfl <;> exact hr
    have hb1 : w1.heap[b]? = some (.map es clock) := by rcases hal with rfl | rfl <;> exact hb
    have hset := heap_set (o' := .mapIter (some b) since (seen.push e.born) clock) hr1
    have hb' : (setBlock w1 r (.mapIter (some b) since (seen.push e.born) clock)).heap[b]? = some (.map es clock) := (hset.2 b (fun e1 => hne e1.symm)).trans hb1
    refine Or.inr ⟨(e.key, e.val), (leftOf es (seen.push e.born)).toList.map (fun x => (x.key, x.val)), _, ?_, hrun,
      ⟨es, clock, since, seen.push e.born, clock, hb', hs, hk, hp, hset.1, hold, hsk, hsk, List.Perm.refl _⟩, ?_, ?_, run_entry_at _ r b since seen es clock e hset.1 hb' hem hs.2.1⟩
    · exact hl.symm.trans ((left_step hs.2.1 he).map _)
    · rcases hal with rfl | rfl <;> exact ⟨rfl, rfl, rfl, by simp [setBlock], fun i _ hi => hset.2 i (fun e1 => hi (by rw [e1]))⟩
    · rcases hal with rfl | rfl <;> simp [setBlock]

theorem find_born_idx : ∀ (l : List MapEntry), (l.map (·.born)).Nodup → ∀ (j : Nat) (e : MapEntry), l[j]? = some e → l.findIdx? (fun x => (x.born : Int) == (e.born : Int)) = some j
  | [], _, _, _, h => by simp at h
  | a :: r, hn, 0, e, h => by simp at h; subst h; simp [List.findIdx?_cons]
  | a :: r, hn, j + 1, e, h => by
    simp only [List.map_cons, List.nodup_cons] at hn
    simp at h
    have hne : a.born ≠ e.born := fun h' => hn.1 (h' ▸ List.mem_map.2 ⟨e, List.mem_of_getElem? h, rfl⟩)
    have hne' : ((a.born : Int) == (e.born : Int)) = false := by simp; omega
    simp [List.findIdx?_cons, hne', find_born_idx r hn.2 j e h]

theorem modify_same (es : Array MapEntry) (j : Nat) (f : MapEntry → MapEntry) (hf : ∀ e, es[j]? = some e → f e = e) : es.modify j f = es := by
  apply Array.ext_getElem?
  intro i
  rw [Array.getElem?_modify]
  split
  · rename_i h
    subst h
    cases he : es[j]? with
    | none => rfl
    | some e => simp [hf e he]
  · rfl

/-- 'm[k] op= ..' at a key that is there, one by one: the look at the entry turns nothing; the store into it is a store at the key. The iterator stays where it is. -/
theorem entry_ops {t e : TypeId} (h : Proofs.Ytamnffcafbfojaa.hasMap P k w b L) (K : Keyed P k) (ht : P.underlying t = some (.map k e)) {key v : Value} {kl : Lit} (hkey : keyOf P k key = some kl) (hin : (key, v) ∈ L) :
    ∃ born : Int, (∀ n, (Instr.mapEntry t (.map (some b)) key).run P (w.drewN n) = .ok (.tuple #[v, .int .i64 born]) (w.drewN n)) ∧
      ∀ n val, ∃ w', (Instr.entryStore t (.map (some b)) (.int .i64 born) val).run P (w.drewN n) = .ok () w' ∧ w.grownBy w' (some b) ∧ w'.heap.size = w.heap.size ∧ (∀ R, restAt L key R → Proofs.Ytamnffcafbfojaa.hasMap P k w' b ((key, val) :: R)) ∧
        ∀ r left, iterOn P k w r b L left → (∀ u, (key, u) ∉ left) → ∀ R, restAt L key R → iterOn P k w' r b ((key, val) :: R) left := by
  have hnd := h.nodup
  obtain ⟨es, clock, hb, hs, hk, hp⟩ := h
  obtain ⟨x0, hx0, hxe⟩ := List.mem_map.1 (hp.mem_iff.2 hin)
  rcases K.find w hkey es.toList hk with ⟨_, h2⟩ | ⟨j, e0, h1, h2, h3⟩
  · exact absurd (congrArg Prod.fst hxe) (h2 x0 hx0)
  · have hj : es[j]? = some e0 := by simpa using h2
    have h0v : e0.val = v := by
      have : x0 = e0 := entry_eq_of_key ((stamped_iff es clock).1 hs).2.2 hx0 (List.mem_of_getElem? h2) ((congrArg Prod.fst hxe).trans h3.symm)
      rw [← this]; exact congrArg Prod.snd hxe
    have hmod : es.modify j (fun e => { e with key := key }) = es := modify_same _ _ _ (fun e he => by rw [hj] at he; cases he; rw [← h3])
    have hfi : es.findIdx? (fun x => (x.born : Int) == (e0.born : Int)) = some j := by have := find_born_idx _ hs.2.1 j e0 h2; rw [← this]; cases es; simp
    refine ⟨e0.born, fun n => ?_, fun n val => ⟨setBlock (w.drewN n) b (.map (es.modify j (fun e' => { e' with val := val })) clock), ?_, ⟨rfl, rfl, rfl, by simp [setBlock, World.drewN], fun i _ hi => ?_⟩, by simp [setBlock, World.drewN], fun R hR => ?_, fun r left hit hnl R hR => ?_⟩⟩
    · have hbn : (w.drewN n).heap[b]? = some (.map es clock) := hb
      rcases K.find (w.drewN n) hkey es.toList hk with ⟨_, h2'⟩ | ⟨j', e', h1', h2'', h3'⟩
      · exact absurd h3 (h2' e0 (List.mem_of_getElem? h2))
      · have hee : e' = e0 := entry_eq_of_key ((stamped_iff es clock).1 hs).2.2 (List.mem_of_getElem? h2'') (List.mem_of_getElem? h2) (h3'.trans h3.symm)
        subst hee
        have hjj : es[j']? = some e' := by simpa using h2''
        have hmod' : es.modify j' (fun e => { e with key := key }) = es := modify_same _ _ _ (fun e he => by rw [hjj] at he; cases he; rw [← h3])
        have hself : setBlock (w.drewN n) b (.map es clock) = w.drewN n := by
          have hlt : b < w.heap.size := (Array.getElem?_eq_some_iff.1 hb).1
          simp only [setBlock]
          have : (w.drewN n).heap.setIfInBounds b (.map es clock) = (w.drewN n).heap := by
            apply Array.ext_getElem?
            intro i
            rw [Array.getElem?_setIfInBounds]
            split
            · rename_i hi
              subst hi
              rw [if_pos (show b < (w.drewN n).heap.size from hlt)]
              exact hbn.symm
            · rfl
          rw [this]
        have hso : (setObj b (.map es clock)).run P (w.drewN n) = .ok () (w.drewN n) := by
          have := MapKept.run_setObj_map (P := P) (.map es clock) hbn
          rw [this]
          exact congrArg (Result.ok ()) hself
        simp only [Instr.mapEntry, Sem.run_bind, run_underlying ht, Result.andThen, MapKept.run_getObj_map hbn, K.check (w.drewN n) false hkey, h1', hjj, Option.map_some, Option.getD_some, h3, K.stays (w.drewN n) hkey, hmod', hso, h0v, goInt, Sem.run_pure]
    · have hbn : (w.drewN n).heap[b]? = some (.map es clock) := hb
      simp only [Instr.entryStore, Sem.run_bind, MapKept.run_getObj_map hbn, Result.andThen, asInt, asIntOf, Sem.run_pure, hfi, MapKept.run_setObj_map _ hbn, setBlock]
    · exact heap_setBlock_other (w := w.drewN n) hb _ (fun e => hi (by rw [e]))
    · have hlist : (es.modify j (fun e' => { e' with val := val })).toList = es.toList.set j { e0 with val := val } := by rw [Array.toList_modify, modify_eq_set _ _ _ _ h2]
      have hmap : (es.toList.map fun x => (x.key, x.val))[j]? = some (key, e0.val) := by simp [hj, h3]
      have hps := perm_set _ j (key, e0.val) (key, val) hmap
      have hR' := restAt_perm hnd (Or.inl ⟨e0.val, hp.symm.trans hps.2⟩) hR
      refine ⟨_, _, heap_setBlock_same (w := w.drewN n) hb _, stamped_modify hs _ _ (fun _ _ => rfl) (fun _ _ _ => rfl), ?_, ?_⟩
      · intro x hx
        rw [hlist] at hx
        rcases List.mem_or_eq_of_mem_set hx with hx | rfl
        · exact hk x hx
        · exact ⟨kl, by rw [← hkey, ← h3]⟩
      · rw [hlist, List.map_set]
        simp only [h3]
        exact hps.1.trans (hR'.cons _)
    · obtain ⟨es2, clock2, since, seen, c0, hb2, _, _, hp2, hr2, hold, hsc, hsk, hl⟩ := hit
      rw [hb] at hb2
      cases hb2
      have hlist : (es.modify j (fun e' => { e' with val := val })).toList = es.toList.set j { e0 with val := val } := by rw [Array.toList_modify, modify_eq_set _ _ _ _ h2]
      have hmap : (es.toList.map fun x => (x.key, x.val))[j]? = some (key, e0.val) := by simp [hj, h3]
      have hps := perm_set _ j (key, e0.val) (key, val) hmap
      have hR' := restAt_perm hnd (Or.inl ⟨e0.val, hp.symm.trans hps.2⟩) hR
      have hrb : r ≠ b := fun e => by rw [e, hb] at hr2; cases hr2
      have hseen : seen.contains e0.born = true := by
        cases hc : seen.contains e0.born
        · have : e0 ∈ (leftOf es seen).toList := by simp only [leftOf, Array.toList_filter, List.mem_filter]; exact ⟨List.mem_of_getElem? h2, by rw [hc]; rfl⟩
          exact absurd (hl.mem_iff.1 (List.mem_map.2 ⟨e0, this, by rw [h3]⟩)) (hnl e0.val)
        · rfl
      have hleft : (leftOf (es.modify j (fun e' => { e' with val := val })) seen).toList = (leftOf es seen).toList := by
        simp only [leftOf, Array.toList_filter, hlist]
        have : ∀ (l : List MapEntry) (i : Nat), l[i]? = some e0 → (l.set i { e0 with val := val }).filter (fun x => !seen.contains x.born) = l.filter (fun x => !seen.contains x.born) := by
          intro l
          induction l with
          | nil => intro i h; simp at h
          | cons a t ih =>
            intro i h
            cases i with
            | zero =>
              simp at h
              subst h
              simp only [List.set_cons_zero, List.filter_cons, hseen, Bool.not_true, Bool.false_eq_true, if_false]
            | succ i =>
              simp at h
              simp only [List.set_cons_succ, List.filter_cons, ih i h]
        exact this _ j h2
      refine ⟨_, clock, since, seen, c0, heap_setBlock_same (w := w.drewN n) hb _, stamped_modify hs _ _ (fun _ _ => rfl) (fun _ _ _ => rfl), ?_, ?_, (heap_setBlock_other (w := w.drewN n) hb _ hrb).trans hr2, ?_, hsc, hsk, by rw [hleft]; exact hl⟩
      · intro x hx
        rw [hlist] at hx
        rcases List.mem_or_eq_of_mem_set hx with hx | rfl
        · exact hk x hx
        · exact ⟨kl, by rw [← hkey, ← h3]⟩
      · rw [hlist, List.map_set]
        simp only [h3]
        exact hps.1.trans (hR'.cons _)
      · intro x hx
        rw [hlist] at hx
        rcases List.mem_or_eq_of_mem_set hx with hx | rfl
        · exact hold x hx
        · exact hold e0 (List.mem_of_getElem? h2)

end

section
variable {P : Program} (w : World) {ops : Array Oper} {rest : List Oper} {o : Oper} {a : Act} {Q : Exit → Act → World → Prop}

theorem wpList_rangeL (hg : o.guard = none) (m : Operand) (t : TypeId) (hop : o.op = Op.range t m) (k e : TypeId) (ht : P.underlying t = some (.map k e)) (b : Nat) (L : List (Value × Value))
    (hm : a.eval m = .map (some b)) (hown : hasMap P k w b L)
    (hK : ∀ w', iterOn P k w' w.heap.size b L L → w.grownBy w' none → w'.heap.size = w.heap.size + 1 → wpList P ops Q rest (a.put o.dst (.pointer (some ⟨w.heap.size, 0, none⟩))) w') :
    wpList P ops Q (o :: rest) a w := by
  refine wpList_plain hg fun K' hK' => ?_
  obtain ⟨w', hrun, r1, r2, r3⟩ := hown.range ht
  unfold Oper.wp
  simp [execOp, hop, hm, hrun, Result.andThen]
  exact hK' _ _ (hK w' r1 r2 r3)

theorem wpList_nextL {α : Type} (hg : o.guard = none) (it : Operand) (hop : o.op = Op.next it false) (k : TypeId) (ek ev : α → Value) (r b : Nat) (L : List (Value × Value)) (left : List α)
    (hit : a.eval it = .pointer (some ⟨r, 0, none⟩)) (h : iterOn P k w r b L (left.map fun x => (ek x, ev x)))
    (hDone : left = [] → wpList P ops Q rest (a.put o.dst (.tuple #[.bool false])) w)
    (hMore : ∀ x left' w', left.Perm (x :: left') → iterOn P k w' r b L (left'.map fun x => (ek x, ev x)) → w.grownBy w' (some r) → w'.heap.size = w.heap.size →
      (Instr.entry (.pointer (some ⟨r, 0, none⟩))).run P w' = .ok (.tuple #[ek x, ev x]) w' → wpList P ops Q rest (a.put o.dst (.tuple #[.bool true, ek x, ev x])) w') :
    wpList P ops Q (o :: rest) a w := by
  refine wpList_plain hg fun K' hK' => ?_
  unfold Oper.wp
  rcases h.next o.type with ⟨h0, hrun⟩ | ⟨p, left1, w', hp, hrun, hi, hgr, hsz, hen⟩
  · simp [execOp, hop, hit, hrun, Result.andThen]
    exact hK' _ _ (hDone (by simpa using h0))
  · have hmem := hp.mem_iff.2 (List.mem_cons_self)
    obtain ⟨x, hx, rfl⟩ := List.mem_map.1 hmem
    obtain ⟨s, t, rfl⟩ := List.append_of_mem hx
    have hpp : (s ++ x :: t).Perm (x :: (s ++ t)) := List.perm_middle
    have hl1 : left1.Perm ((s ++ t).map fun x => (ek x, ev x)) := by
      have := (hp.symm.trans (hpp.map (fun x => (ek x, ev x))))
      rw [List.map_cons] at this
      exact (List.perm_cons _).1 this
    have hi' : iterOn P k w' r b L ((s ++ t).map fun x => (ek x, ev x)) := by
      obtain ⟨es, clock, since, seen, c0, g1, g2, g3, g4, g5, g6, g7, g8, g9⟩ := hi
      exact ⟨es, clock, since, seen, c0, g1, g2, g3, g4, g5, g6, g7, g8, g9.trans hl1⟩
    simp [execOp, hop, hit, hrun, Result.andThen]
    exact hK' _ _ (hMore x (s ++ t) w' hpp hi' hgr hsz hen)
end
end Go.Proofs.Ytamnffcafbfojaa
