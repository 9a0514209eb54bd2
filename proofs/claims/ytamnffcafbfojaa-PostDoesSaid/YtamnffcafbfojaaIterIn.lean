/-
  RANGE OVER A MAP INSIDE A FENCE: the laws of the iterator at the operations.
-/
import Derived.Test.YtamnffcafbfojaaIter
import Derived.Sort.MapsRangeIn
import Derived.RangeFuncNested
import Derived.RangeFuncBound
import Derived.RangeFuncCalls
import Derived.RangeFuncLeaves
import Derived.Shelf.Abstract
import Derived.Shelf.RegionOpen
import Derived.OwnWalkIn
import Derived.TacticsInMore
import Derived.LoopNIn
import Derived.LoopIn
import Derived.Maps.AppendAt
namespace Go.Proofs.Ytamnffcafbfojaa
open Go Go.MapKept Go.ChangeMaps Go.RowKit

section
variable {F : Fence} {n : Nat} {P : Program} (w : World) {ops : Array Oper} {rest : List Oper} {o : Oper} {a : Act} {Q : Exit → Act → World → Prop}

theorem wpListIn_rangeL (hg : o.guard = none) (m : Operand) (t : TypeId) (hop : o.op = Op.range t m) (k e : TypeId) (ht : P.underlying t = some (.map k e)) (b : Nat) (L : List (Value × Value))
    (hm : a.eval m = .map (some b)) (hown : hasMap P k w b L)
    (hK : ∀ w', iterOn P k w' w.heap.size b L L → w.grownBy w' none → w'.heap.size = w.heap.size + 1 → wpListIn F n P ops Q rest (a.put o.dst (.pointer (some ⟨w.heap.size, 0, none⟩))) w') :
    wpListIn F n P ops Q (o :: rest) a w := by
  refine wpListIn_plain hg fun K' hK' => ?_
  obtain ⟨w', hrun, r1, r2, r3⟩ := hown.range ht
  unfold Oper.wpIn
  refine ⟨?_, ?_⟩
  · simp [Oper.about, hop]
  · rw [Oper.semAt_plain F _ _ (by rw [hop]; intro c hc'; cases hc')]
    simp [execOp, hop, hm, hrun, Result.andThen]
    exact hK' _ _ (hK w' r1 r2 r3)

theorem wpListIn_nextL {α : Type} (hg : o.guard = none) (it : Operand) (hop : o.op = Op.next it false) (k : TypeId) (ek ev : α → Value) (r b : Nat) (L : List (Value × Value)) (left : List α)
    (hit : a.eval it = .pointer (some ⟨r, 0, none⟩)) (h : iterOn P k w r b L (left.map fun x => (ek x, ev x)))
    (hDone : left = [] → wpListIn F n P ops Q rest (a.put o.dst (.tuple #[.bool false])) w)
    (hMore : ∀ x left' w', left.Perm (x :: left') → iterOn P k w' r b L (left'.map fun x => (ek x, ev x)) → w.grownBy w' (some r) → w'.heap.size = w.heap.size →
      (Instr.entry (.pointer (some ⟨r, 0, none⟩))).run P w' = .ok (.tuple #[ek x, ev x]) w' → wpListIn F n P ops Q rest (a.put o.dst (.tuple #[.bool true, ek x, ev x])) w') :
    wpListIn F n P ops Q (o :: rest) a w := by
  refine wpListIn_plain hg fun K' hK' => ?_
  unfold Oper.wpIn
  refine ⟨?_, ?_⟩
  · simp [Oper.about, hop]
  · rw [Oper.semAt_plain F _ _ (by rw [hop]; intro c hc'; cases hc')]
    rcases h.next o.type with ⟨h0, hrun⟩ | ⟨p, left1, w', hp, hrun, hi, hgr, hsz, hen⟩
    · simp [execOp, hop, hit, hrun, Result.andThen]
      exact hK' _ _ (hDone (by simpa using h0))
    · have hmem := hp.mem_iff.2 (List.mem_cons_self)
      obtain ⟨x, hx, rfl⟩ := List.mem_map.1 hmem
      obtain ⟨s, t, rfl⟩ := List.append_of_mem hx
      have hpp : (s ++ x :: t).Perm (x :: (s ++ t)) := List.perm_middle
      have hl1 : left1.Perm ((s ++ t).map fun x => (ek x, ev x)) := by
        have := (hp.symm.trans (hpp.map (fun x => (ek x, ev x))))
        rw [List.map_cons] at this
        exact (List.perm_cons _).1 this
      have hi' : iterOn P k w' r b L ((s ++ t).map fun x => (ek x, ev x)) := by
        obtain ⟨es, clock, since, seen, c0, g1, g2, g3, g4, g5, g6, g7, g8, g9⟩ := hi
        exact ⟨es, clock, since, seen, c0, g1, g2, g3, g4, g5, g6, g7, g8, g9.trans hl1⟩
      simp [execOp, hop, hit, hrun, Result.andThen]
      exact hK' _ _ (hMore x (s ++ t) w' hpp hi' hgr hsz hen)
end

theorem iterOn.of_walks {P : Program} {k : TypeId} {w w' : World} {r b : Nat} {L left : List (Value × Value)} (h : iterOn P k w r b L left) (hk : KeepsWalks w w') : iterOn P k w' r b L left := by
  obtain ⟨es, clock, since, seen, c0, h1, h2, h3, h4, h5, h6⟩ := h
  exact ⟨es, clock, since, seen, c0, hk.same _ _ h1 rfl, h2, h3, h4, hk.same _ _ h5 rfl, h6⟩

theorem iterOn.iter_walk {P : Program} {k : TypeId} {w : World} {r b : Nat} {L left : List (Value × Value)} (h : iterOn P k w r b L left) : ∃ o : Obj, w.heap[r]? = some o ∧ o.isWalk = true := by
  obtain ⟨es, clock, since, seen, c0, h1, h2, h3, h4, h5, h6⟩ := h
  exact ⟨_, h5, rfl⟩
end Go.Proofs.Ytamnffcafbfojaa
