/-
  Keys of a map, in order.
-/
import Derived.Test.YtfoifdhcelcgiaaGreatDoorJe
import Derived.Sort.MapsRangeIn
import Derived.RangeFuncNested
import Derived.RangeFuncBound
import Derived.RangeFuncCalls
import Derived.RangeFuncLeaves
import Derived.Shelf.Abstract
import Derived.Shelf.RegionOpen
import Derived.OwnWalkIn
import Derived.TacticsInMore
import Derived.LoopNIn
import Derived.LoopIn
import Derived.Maps.AppendAt
import Derived.Test.YtfoifdhcelcgiaaGreatDoorJc
import Derived.Test.YtfoifdhcelcgiaaGreatDoorJd
import Derived.Shelf.SlSortCmp.NoneTotal
import Derived.WalkKit
/- RANGE OVER A MAP INSIDE A FENCE: the laws of the iterator at the operations. -/
namespace Go.Proofs.YtfoifdhcelcgiaaGreatDoor
open Go Go.MapKept Go.ChangeMaps Go.RowKit

section
variable {F : Fence} {n : Nat} {P : Program} (w : World) {ops : Array Oper} {rest : List Oper} {o : Oper} {a : Act} {Q : Exit → Act → World → Prop}

theorem wpListIn_rangeL (hg : o.guard = none) (m : Operand) (t : TypeId) (hop : o.op = Op.range t m) (k e : TypeId) (ht : P.underlying t = some (.map k e)) (b : Nat) (L : List (Value × Value))
    (hm : a.eval m = .map (some b)) (hown : hasMap P k w b L)
    (hK : ∀ w', iterOn P k w' w.heap.size b L L → w.grownBy w' none → w'.heap.size = w.heap.size + 1 → wpListIn F n P ops Q rest (a.put o.dst (.pointer (some ⟨w.heap.size, 0, none⟩))) w') :
    wpListIn F n P ops Q (o :: rest) a w := by
  refine wpListIn_plain hg fun K' hK' => ?_
  obtain ⟨w', hrun, r1, r2, r3⟩ := hown.range ht
  unfold Oper.wpIn
  refine ⟨?_, ?_⟩
  · simp [Oper.about, hop]
  · rw [Oper.semAt_plain F _ _ (by rw [hop]; intro c hc'; cases hc')]
    simp [execOp, hop, hm, hrun, Result.andThen]
    exact hK' _ _ (hK w' r1 r2 r3)

theorem wpListIn_nextL {α : Type} (hg : o.guard = none) (it : Operand) (hop : o.op = Op.next it false) (k : TypeId) (ek ev : α → Value) (r b : Nat) (L : List (Value × Value)) (left : List α)
    (hit : a.eval it = .pointer (some ⟨r, 0, none⟩)) (h : iterOn P k w r b L (left.map fun x => (ek x, ev x)))
    (hDone : left = [] → wpListIn F n P ops Q rest (a.put o.dst (.tuple #[.bool false])) w)
    (hMore : ∀ x left' w', left.Perm (x :: left') → iterOn P k w' r b L (left'.map fun x => (ek x, ev x)) → w.grownBy w' (some r) → w'.heap.size = w.heap.size →
      (Instr.entry (.pointer (some ⟨r, 0, none⟩))).run P w' = .ok (.tuple #[ek x, ev x]) w' → wpListIn F n P ops Q rest (a.put o.dst (.tuple #[.bool true, ek x, ev x])) w') :
    wpListIn F n P ops Q (o :: rest) a w := by
  refine wpListIn_plain hg fun K' hK' => ?_
  unfold Oper.wpIn
  refine ⟨?_, ?_⟩
  · simp [Oper.about, hop]
  · rw [Oper.semAt_plain F _ _ (by rw [hop]; intro c hc'; cases hc')]
    rcases h.next o.type with ⟨h0, hrun⟩ | ⟨p, left1, w', hp, hrun, hi, hgr, hsz, hen⟩
    · simp [execOp, hop, hit, hrun, Result.andThen]
      exact hK' _ _ (hDone (by simpa using h0))
    · have hmem := hp.mem_iff.2 (List.mem_cons_self)
      obtain ⟨x, hx, rfl⟩ := List.mem_map.1 hmem
      obtain ⟨s, t, rfl⟩ := List.append_of_mem hx
      have hpp : (s ++ x :: t).Perm (x :: (s ++ t)) := List.perm_middle
      have hl1 : left1.Perm ((s ++ t).map fun x => (ek x, ev x)) := by
        have := (hp.symm.trans (hpp.map (fun x => (ek x, ev x))))
        rw [List.map_cons] at this
        exact (List.perm_cons _).1 this
      have hi' : iterOn P k w' r b L ((s ++ t).map fun x => (ek x, ev x)) := by
        obtain ⟨es, clock, since, seen, c0, g1, g2, g3, g4, g5, g6, g7, g8, g9⟩ := hi
        exact ⟨es, clock, since, seen, c0, g1, g2, g3, g4, g5, g6, g7, g8, g9.trans hl1⟩
      simp [execOp, hop, hit, hrun, Result.andThen]
      exact hK' _ _ (hMore x (s ++ t) w' hpp hi' hgr hsz hen)
end

theorem iterOn.of_walks {P : Program} {k : TypeId} {w w' : World} {r b : Nat} {L left : List (Value × Value)} (h : iterOn P k w r b L left) (hk : KeepsWalks w w') : iterOn P k w' r b L left := by
  obtain ⟨es, clock, since, seen, c0, h1, h2, h3, h4, h5, h6⟩ := h
  exact ⟨es, clock, since, seen, c0, hk.same _ _ h1 rfl, h2, h3, h4, hk.same _ _ h5 rfl, h6⟩

theorem iterOn.iter_walk {P : Program} {k : TypeId} {w : World} {r b : Nat} {L left : List (Value × Value)} (h : iterOn P k w r b L left) : ∃ o : Obj, w.heap[r]? = some o ∧ o.isWalk = true := by
  obtain ⟨es, clock, since, seen, c0, h1, h2, h3, h4, h5, h6⟩ := h
  exact ⟨_, h5, rfl⟩
end Go.Proofs.YtfoifdhcelcgiaaGreatDoor

/- maps.Keys AND slices.Collect AT A MAP KEYED BY api.Id: the names, each once, in some order. -/
namespace Go.Proofs.YtfoifdhcelcgiaaGreatDoor
open Go Go.RowKit Go.Shelf
attribute [local go_sem] Oper.semAt_some

section
variable {F : Fence} {n : Nat} {P : Program} (w : World) {ops : Array Oper} {rest : List Oper} {o : Oper} {a : Act} {Q : Exit → Act → World → Prop}
theorem wpListIn_loadAgg (hg : o.guard = none) (t : TypeId) (x : Operand) (hop : o.op = .load t x) (d : TypeDesc) (hu : P.underlying t = some d) (hd : isRowD d = true)
    (b off : Nat) (hx : a.eval x = .pointer (some ⟨b, off, none⟩)) (cs : List Value) (hi : (P.info? t).map (·.size) = some cs.length) (hc : cellsAt w b off cs)
    (h : wpListIn F n P ops Q rest (a.put o.dst (.agg cs.toArray)) w) : wpListIn F n P ops Q (o :: rest) a w := by
  refine wpListIn_plain hg fun K' hK' => ?_
  unfold Oper.wpIn
  refine ⟨by simp [Oper.about, hop], ?_⟩
  rw [Oper.semAt_plain F _ _ (by rw [hop]; intro c hc'; cases hc')]
  unfold execOp
  simp only [hop, hx, Instr.loadAt, Instr.sureAddr, Sem.run_bind, Sem.run_pure, Result.andThen_ok, run_loadAgg hu hd hi hc]
  exact hK' _ _ h
theorem wpListIn_allocZ (hg : o.guard = none) (t : TypeId) (hop : o.op = .alloc t) (Z : Value) (hz : ∀ w, (zeroValue t).run P w = .ok Z w)
    (h : wpListIn F n P ops Q rest (a.put o.dst (.pointer (some ⟨w.heap.size, 0, none⟩))) (w.alloc (.cells Z.cells t))) : wpListIn F n P ops Q (o :: rest) a w := by
  refine wpListIn_plain hg fun K' hK' => ?_
  unfold Oper.wpIn
  refine ⟨by simp [Oper.about, hop], ?_⟩
  rw [Oper.semAt_plain F _ _ (by rw [hop]; intro c hc'; cases hc')]
  have hn : (newVar t Z).run P w = .ok ⟨w.heap.size, 0, none⟩ (w.alloc (.cells Z.cells t)) := rfl
  unfold execOp
  simp only [hop, Instr.alloc, Sem.run_bind, hz, Result.andThen_ok, hn, Sem.run_pure]
  exact hK' _ _ h
theorem wpListIn_storeNew (w0 : World) (hg : o.guard = none) (t : TypeId) (x v : Operand) (hop : o.op = .store t x v) (Z : Array Value) (hw : w = w0.alloc (.cells Z t))
    (hx : a.eval x = .pointer (some ⟨w0.heap.size, 0, none⟩)) (cs : Array Value) (hv : a.eval v = .agg cs) (hi : (P.info? t).map (·.size) = some cs.size) (hZ : Z.size = cs.size) (h1 : ∀ u ∈ cs.toList, u.oneCell' = true)
    (h : wpListIn F n P ops Q rest (a.put o.dst undef) (w0.alloc (.cells cs t))) : wpListIn F n P ops Q (o :: rest) a w := by
  refine wpListIn_plain hg fun K' hK' => ?_
  unfold Oper.wpIn
  refine ⟨by simp [Oper.about, hop], ?_⟩
  rw [Oper.semAt_plain F _ _ (by rw [hop]; intro c hc'; cases hc')]
  rw [exec_storeNew w w0 t x v hop Z hw hx cs hv hi hZ h1]
  exact hK' _ _ h
theorem wpListIn_buildOne (hg : o.guard = none) (t : TypeId) (x : Operand) (hop : o.op = .buildSlice t 1 #[(0, x)])
    (e : TypeId) (m : Nat) (Z : Value) (ht : P.underlying t = some (.slice e)) (hi : (P.info? e).map (·.size) = some m) (hn : 0 < m) (hn2 : m ≤ 1000) (hz : ∀ w, (zeroValue e).run P w = .ok Z w) (cs : Array Value) (hx : a.eval x = .agg cs) (hc : cs.size = m)
    (h : wpListIn F n P ops Q rest (a.put o.dst (.slice (some ⟨w.heap.size, 0, none⟩) 1 1)) (w.alloc (.cells cs e))) : wpListIn F n P ops Q (o :: rest) a w := by
  refine wpListIn_plain hg fun K' hK' => ?_
  unfold Oper.wpIn
  refine ⟨by simp [Oper.about, hop], ?_⟩
  rw [Oper.semAt_plain F _ _ (by rw [hop]; intro c hc'; cases hc')]
  have hr := run_buildOne (w := w) ht hi hn hn2 hz hc
  unfold execOp
  simp only [hop, List.map_toArray, List.map_cons, List.map_nil, hx, Sem.run_bind, hr, Result.andThen_ok, Sem.run_pure]
  exact hK' _ _ h
end

/-- a name of the right length -/
abbrev Id32 := { x : List UInt8 // x.length = 32 }
instance : Inhabited Id32 := ⟨⟨List.replicate 32 0, rfl⟩⟩

set_option maxRecDepth 100000 in
set_option maxHeartbeats 4000000 in
theorem nkeys1_in {β : Type} (F : Fence) (n : Nat) (h32 : F.fn 89) (hro : F.round = none) (hn : 1 ≤ n) (l Bm b : Nat) (L : List β) (kf : β → Id32) (vf : β → Value) (J Jx : List Id32 → World → Prop)
    (W : World) (hJ : AbidesFrom W.heap.size J)
    (hY : ∀ pre x W1, J pre W1 → pre.length < L.length → YieldAt F (n - 1) Tryz.prog l #[idv x.1] W1 fun e W' =>
      (e = .returned (.bool true) ∧ J (pre ++ [x]) W' ∧ KeepsWalks W1 W') ∨ (e = .returned (.bool false) ∧ Jx (pre ++ [x]) W'))
    (hm : W.cell? ⟨Bm, 0, none⟩ = some (.map (some b))) (hown : hasMap Tryz.prog 31 W b (L.map fun x => (idv (kf x).1, vf x))) (h0 : J [] W) :
    CallsIn F n Tryz.prog 89 #[.func (.yield l) #[] #[], .pointer (some ⟨Bm, 0, none⟩)] W fun e W' => (∃ v, e = .returned v) ∧
      ((∃ xs, xs.Perm (L.map kf) ∧ J xs W') ∨ (∃ pre : List Id32, True ∧ Jx pre W')) := by
  obtain ⟨hz, hid⟩ := info_two idInfo
  have HZ := Lib.hid hz
  have HI := Lib.hid hid
  clear hz hid
  refine callsIn_of_wp Tryz.func89 rfl h32 ?_ hro
  simp only [Tryz.ntmps89, List.size_toArray, List.length_cons, List.length_nil, Nat.reduceAdd, Nat.reduceSub, Array.replicate_succ, Array.replicate_zero, List.push_toArray, List.append_toArray, List.nil_append, List.cons_append]
  gi_wp2_with (first
    | (gi_at_range; refine wpListIn_rangeL _ rfl _ 78 rfl 31 46 Tryz.underlying78 b _ rfl hown ?_; intro w0 hrg0 hg0 hs0)
    | gi_in)
  go_frame
  gi_loopw [3] (fun _ wr => ∃ (left : List β) (ss : List Id32), iterOn Tryz.prog 31 wr W.heap.size b (L.map fun x => (idv (kf x).1, vf x)) (left.map fun x => (idv (kf x).1, vf x)) ∧ (L.map kf).Perm (ss ++ left.map kf) ∧ (∀ x ∈ left, x ∈ L) ∧ J ss wr)
    (fun _ wr => wr.rangeLeft b W.heap.size)
  case atStart =>
    exact ⟨L, [], hrg0, by simp, fun x hx => hx, hJ [] W w0 none h0 hg0 (fun r e => by cases e)⟩
  case round =>
    obtain ⟨left, ss, hrg, hp, hsub, hJs⟩ := hrel
    gi_wp2_with (first
      | (gi_at_next; refine wpListIn_nextL _ rfl _ rfl 31 (fun x => idv (kf x).1) vf W.heap.size b _ left rfl hrg ?_ ?_)
      | gi_in)
    · intro hl0
      gi_wp2
      go_end0
      subst hl0
      exact ⟨⟨_, rfl⟩, .inl ⟨ss, by simpa using hp.symm, hJs⟩⟩
    · intro x left' w2 hperm hrg2 hg2 hs2 hen
      have h32x : (kf x).1.length = 32 := (kf x).2
      have hsub' : ∀ y ∈ left', y ∈ L := fun y hy => hsub y (hperm.mem_iff.2 (by simp [hy]))
      have hJ2 : J ss w2 := hJ ss wr w2 (some W.heap.size) hJs hg2 (fun r e => by cases e; exact ⟨Nat.le_refl _, hrg.iter_walk⟩)
      have hJ3 : J ss (w2.alloc (.cells (bcs (kf x).1).toArray 31)) := hJ ss w2 _ none hJ2 (World.grownBy_alloc _ _ _) (fun r e => by cases e)
      have hlen : ss.length < L.length := by
        have h1 := hp.length_eq
        have h2 := hperm.length_eq
        simp at h1 h2
        omega
      obtain ⟨fn, tmps, assign, body, hy, hR⟩ := hY ss (kf x) _ hJ3 hlen
      have hrg3 : iterOn Tryz.prog 31 (w2.alloc (.cells (bcs (kf x).1).toArray 31)) W.heap.size b (L.map fun x => (idv (kf x).1, vf x)) (left'.map fun x => (idv (kf x).1, vf x)) :=
        hrg2.of_walks (KeepsWalks.alloc _ _)
      have hca := Lib.hid (show cellsAt (w2.alloc (.cells (bcs (kf x).1).toArray 31)) w2.heap.size 0 (bcs (kf x).1) by simpa using cellsAt_new w2 (bcs (kf x).1).toArray 31)
      have HX := Lib.hid h32x
      have HZX := Lib.hid (show (fillB [] 32).size = (bcs (kf x).1).toArray.size by rw [show (bcs (kf x).1).toArray.size = (bcs (kf x).1).length from rfl, bcs_length, h32x]; rfl)
      clear hs2 h32x
      gi_wp2_with (first
        | (refine wpListIn_allocZ _ rfl 31 rfl _ HZ.out ?_)
        | (refine wpListIn_storeNew _ w2 rfl 31 _ _ rfl (fillB [] 32) rfl (by rfl) (bcs (kf x).1).toArray (by rfl) (by rw [HI.out, List.size_toArray, bcs_length, HX.out]) HZX.out (by simpa using bcs_one (kf x)) ?_)
        | (refine wpListIn_loadAgg _ rfl 31 _ rfl _ Tryz.underlying31 rfl w2.heap.size 0 (by rfl) (bcs (kf x).1) (by rw [HI.out, bcs_length, HX.out]) hca.out ?_)
        | gi_in)
      refine hR.mono ?_
      rintro e W3 (⟨rfl, hJ3', hk3⟩ | ⟨rfl, hJx⟩)
      · gi_wp2
        have hrg4 := hrg3.of_walks hk3
        go_roundw
        case rel => exact ⟨left', ss ++ [kf x], hrg4, by rw [List.append_assoc]; refine hp.trans (List.Perm.append_left _ ?_); simpa using hperm.map kf, hsub', hJ3'⟩
        case measure =>
          rw [hrg4.left_eq, hrg.left_eq]
          have h2 := hperm.length_eq
          simp at h2 ⊢
          omega
      · gi_wp2
        refine bodyPost_ret (results_none rfl _ _ _) rfl ?_
        exact ⟨⟨_, rfl⟩, .inr ⟨_, trivial, hJx⟩⟩
end Go.Proofs.YtfoifdhcelcgiaaGreatDoor

/- slices.Collect(maps.Keys(m)) AT A MAP KEYED BY api.Id: a new slice of its names, in some order. -/
namespace Go.Proofs.YtfoifdhcelcgiaaGreatDoor
open Go Go.RowKit Go.Shelf
attribute [local go_sem] Oper.semAt_some

theorem cells_new (w : World) (cs : List Value) (e : TypeId) : ∀ (j : Nat) (u : Value), cs[j]? = some u → (w.alloc (.cells cs.toArray e)).cell? ((⟨w.heap.size, 0, none⟩ : Addr).add j) = some u := by
  intro j u h
  have hadd : (⟨w.heap.size, 0, none⟩ : Addr).add j = ⟨w.heap.size, j, none⟩ := by unfold Addr.add; split <;> simp_all
  rw [hadd, cell_of_row _ _ _ cs.toArray e (0, 0) (World.alloc_heap_new w _)]
  simpa using h

def benc (x : Id32) : List Value := bcs x.1
theorem benc_length (x : Id32) : (benc x).length = 32 := by unfold benc; rw [bcs_length, x.2]

theorem nkeys_stops {β : Type} (F : Fence) (n : Nat) (h32 : F.fn 89) (hro : F.round = none) (hn : 1 ≤ n) (Bm b : Nat) (L : List β) (kf : β → Id32) (vf : β → Value) (w : World) (hBm : Bm < w.heap.size)
    (hm : w.cell? ⟨Bm, 0, none⟩ = some (.map (some b))) (hown : hasMap Tryz.prog 31 w b (L.map fun x => (idv (kf x).1, vf x))) :
    SeqStopsK F n Tryz.prog 89 #[.pointer (some ⟨Bm, 0, none⟩)] (fun x => #[idv x.1]) KeepsWalks (fun xs => xs.Perm (L.map kf)) (fun _ => True) L.length w :=
  fun l J Jx W hW hJ _ hY h0 =>
    nkeys1_in F n h32 hro hn l Bm b L kf vf J Jx W hJ hY ((hW.cell (p := ⟨Bm, 0, none⟩) hBm).trans hm) (hown.of_block (hW.block b hown.lt)) h0

set_option maxRecDepth 100000 in
set_option maxHeartbeats 2000000 in
theorem nappendSeq_in (F : Fence) (n : Nat) (h33 : F.fn 101) (hro : F.round = none) (hn : 3 ≤ n) (gf : Nat) (lb : Array Value) (hFg : F.fn gf) (eg : ∀ args w, (callFunc gf args).run Tryz.prog w = .ok (.enter gf args) w)
    (S : List Id32 → Prop) (N : Nat) (hN : N ≤ maxLen) (hNb : N * 32 ≤ 140737488355328) (w : World)
    (hseq : SeqStopsK F (n - 1) Tryz.prog gf lb (fun x => #[idv x.1]) KeepsWalks S (fun _ => True) N w) :
    CallsIn F n Tryz.prog 101 #[.slice none 0 0, .func (.func gf) #[] lb] w fun e w' => ∃ (v : Value) (xs : List Id32), e = .returned v ∧ S xs ∧
      w'.ownsRow w.heap.size 31 32 v xs.length (xs.flatMap benc) ∧ Below w.heap.size w w' := by
  have h1 : 1 ≤ n := by omega
  obtain ⟨i0, hi, hz0, hz1, hz2⟩ := info_parts idInfo3
  obtain ⟨hz, hid⟩ := info_two idInfo
  have HZ := Lib.hid hz
  have HI := Lib.hid hid
  clear hz hid
  refine callsIn_of_wp_marks Tryz.func101 rfl h33 ?_ hro
  simp only [Tryz.ntmps101, List.size_toArray, List.length_cons, List.length_nil, Nat.reduceAdd, Nat.reduceSub, Array.replicate_succ, Array.replicate_zero, List.push_toArray, List.append_toArray, List.nil_append, List.cons_append]
  gi_wp2
  have bS := Boxed.new w 28 (.slice none 0 0)
  have hB0 : Below w.heap.size w (w.alloc (.cells #[.slice none 0 0] 28)) := (Below.refl _ w).alloc (Nat.le_refl _) _
  have hsz : (w.alloc (.cells #[.slice none 0 0] 28)).heap.size = w.heap.size + 1 := by simp
  obtain ⟨W0, hW0⟩ : ∃ W0, w.alloc (.cells #[.slice none 0 0] 28) = W0 := ⟨_, rfl⟩
  rw [hW0] at bS hB0 hsz ⊢
  clear hW0
  refine wpIn_rangeFunc_ownH hro h1 (gf := gf) (lb := lb) rfl hFg eg hseq walksK_t walksK_b hB0 (fun _ => rfl)
    (fun pre W => (∃ v, Boxed W w.heap.size 28 v ∧ W.ownsRow w.heap.size 31 32 v pre.length (pre.flatMap benc) ∧ True) ∧ Below w.heap.size w W)
    (fun _ _ _ => False)
    (OwnFrom.and (Own.from (holdsRow_own w.heap.size w.heap.size 28 31 32 (fun pre : List Id32 => pre.length) (fun pre => pre.flatMap benc) (fun _ _ => True)) _) (ownFrom_below (Nat.le_refl _) (by omega)))
    (fun _ _ _ _ _ hs _ _ => hs)
    ⟨⟨_, bS, World.ownsRow_nil _ _ _ _, trivial⟩, hB0⟩
    (fun x a' W => ∃ Bx, w.heap.size < Bx ∧ W.heap[Bx]? = some (.cells (bcs x.1).toArray 31 (0, 0)) ∧ a' = { tmps := #[.slice none 0 0, .func (.func gf) #[] lb, .pointer (some ⟨w.heap.size, 0, none⟩), undef, .slice none 0 0, .pointer (some ⟨Bx, 0, none⟩), .func (.func gf) #[] lb, idv x.1, undef, undef, undef, undef, undef], defers := [] })
    (fun x a' _ X Y row hs hg hr => by
      obtain ⟨Bx, g1, g2, g3⟩ := hs
      refine ⟨Bx, g1, (hg.block Bx (Array.getElem?_eq_some_iff.1 g2).1 (fun e' => ?_)).trans g2, g3⟩
      obtain ⟨_, o, ho, hc⟩ := hr Bx e'.symm
      rw [g2] at ho; cases ho; cases hc)
    ?assign ?body ?done ?stop
  case assign =>
    rintro l pre x W K ⟨⟨v, hv, hrow, -⟩, hB1⟩ hK
    have hlt := hv.lt
    have HX := Lib.hid x.2
    have HZX := Lib.hid (show (fillB [] 32).size = (bcs x.1).toArray.size by rw [show (bcs x.1).toArray.size = (bcs x.1).length from rfl, bcs_length, x.2]; rfl)
    gi_wp2_with (first
      | (refine wpListIn_allocZ _ rfl 31 rfl _ HZ.out ?_; go_simp)
      | (refine wpListIn_storeNew _ W rfl 31 _ _ rfl (fillB [] 32) rfl (by rfl) (bcs x.1).toArray (by rfl) (by rw [HI.out, List.size_toArray, bcs_length, HX.out]) HZX.out (by simpa using bcs_one x.1) ?_)
      | gi_in)
    refine hK _ _ ((KeepsOthers.alloc _ _).from _) (KeepsWalks.alloc _ _) ⟨⟨v, hv.alloc _, hrow.alloc _, trivial⟩, hB1.alloc hB1.size _⟩ ⟨W.heap.size, hlt, World.alloc_heap_new W _, ?_⟩
    rfl
  case body =>
    rintro l pre x a' W hl ⟨r, hr⟩ ⟨⟨v, hv, hrow, -⟩, hB1⟩ ⟨Bx, hBx, bX, rfl⟩ hlt
    have c1 := hv.cell
    have hca := Lib.hid (show cellsAt W Bx 0 (bcs x.1) from fun j u hj => by rw [cell_of_row _ _ _ _ _ _ bX, Nat.zero_add]; simpa using hj)
    have HX := Lib.hid x.2
    clear bX
    have hsW := hB1.size
    have hne : 28 ≠ 31 := by decide
    gi_wp2_with (first
      | (refine wpListIn_loadAgg _ rfl 31 _ rfl _ Tryz.underlying31 rfl Bx 0 (by rfl) (bcs x.1) (by rw [HI.out, bcs_length, HX.out]) hca.out ?_)
      | (refine wpListIn_buildOne _ rfl 28 _ rfl 31 32 _ Tryz.underlying28 HI.out (by omega) (by omega) HZ.out (bcs x.1).toArray (by rfl) (by rw [List.size_toArray, bcs_length, HX.out]) ?_)
      | (gi_at_builtin; refine wpListIn_append_own _ rfl _ _ 28 rfl w.heap.size 31 i0 (.agg (fillB [] 32)) 32 32 Tryz.underlying28 hi hz0 hz1 hz2 rfl (by decide) _ _ _ rfl (hrow.alloc _) ⟨W.heap.size, 0, none⟩ 1 1 (bcs x.1) rfl (by rw [bcs_length, HX.out]) (cells_new W (bcs x.1) 31) (bcs_one x.1) (by omega) (by omega) (by simp; omega) ?_; intro v' w1 hown' hgrow _; obtain ⟨g', cap', rfl⟩ := ownsRow_succ hown'; obtain ⟨hv1, hv2, hr2, hk2, hb2⟩ := hv.appended hne hrow hB1.size (Nat.le_refl _) hown' hgrow; have hc1 := hv1.cell; have hf1 := hv1.frozen)
      | gi_in)
    refine ⟨hk2.from _, ?_, ⟨⟨_, hv2, ?_⟩, hB1.trans hb2⟩⟩
    · exact ⟨hk2.size, fun k o hk ho => hk2.same k o hk (by cases o <;> first | rfl | cases ho)⟩
    · rw [show (pre ++ [x]).flatMap benc = pre.flatMap benc ++ bcs x.1 by rw [List.flatMap_append]; simp [benc], show (pre ++ [x]).length = pre.length + 1 by simp]
      first | exact ⟨hr2, trivial⟩ | exact hr2
  case done =>
    rintro D zs W hD hS ⟨⟨v, hv, hrow, -⟩, hB1⟩ hK
    have cS := hv.cell
    gi_wp2
    refine ⟨by simp, .inl ⟨_, _, rfl, run_takeDeferred hK, ?_⟩⟩
    exact ⟨_, results_tmp rfl _ _ _, v, zs, rfl, hS, ownsRow_putObj hrow _ hK rfl, hB1.trans (belowK_b (w := w) (Nat.le_refl _) W D _ _ (by omega) hK rfl rfl)⟩
  case stop =>
    rintro D c pre W _ _ h _
    exact h.elim
end Go.Proofs.YtfoifdhcelcgiaaGreatDoor

/- A SLICE OF ELEMENTS OF k CELLS AS append LEAVES IT ('ownsRow'), AND AS THE SORT WANTS IT ('HoldsK', 'sortWorldK'): the two bridges. -/
namespace Go.Proofs.YtfoifdhcelcgiaaGreatDoor
open Go Go.RowKit Go.Sort

section
variable {α : Type} [Inhabited α] {enc : α → List Value} {k : Nat}

theorem flatMap_get (hk : ∀ x, (enc x).length = k) : ∀ (l : List α) (t : Nat), t < l.length * k → (l.flatMap enc)[t]? = some ((enc l[t / k]!)[t % k]!)
  | [], t, h => by simp at h
  | a :: l, t, h => by
    have k0 : 0 < k := by
      rcases Nat.eq_zero_or_pos k with h0 | h0
      · subst h0; simp at h
      · exact h0
    rw [List.flatMap_cons]
    by_cases ht : t < k
    · rw [List.getElem?_append_left (by rw [hk]; exact ht), Nat.div_eq_of_lt ht, Nat.mod_eq_of_lt ht]
      have : t < (enc a).length := by rw [hk]; exact ht
      simp [this]
    · obtain ⟨u, rfl⟩ : ∃ u, t = k + u := ⟨t - k, by omega⟩
      have hu : u < l.length * k := by rw [List.length_cons, Nat.add_mul] at h; omega
      rw [List.getElem?_append_right (by rw [hk]; omega), hk, Nat.add_sub_cancel_left, flatMap_get hk l u hu]
      have e1 : (k + u) / k = u / k + 1 := by rw [Nat.add_comm, Nat.add_div_right _ k0]
      have e2 : (k + u) % k = u % k := Nat.add_mod_left _ _
      rw [e1, e2]
      simp

omit [Inhabited α] in
theorem length_flatMap (hk : ∀ x, (enc x).length = k) (l : List α) : (l.flatMap enc).length = l.length * k := by
  induction l with
  | nil => simp
  | cons a l ih => rw [List.flatMap_cons, List.length_append, ih, hk, List.length_cons, Nat.add_mul]; omega

theorem holdsK_of_owns (hk : ∀ x, (enc x).length = k) {w : World} {base : Nat} {e : TypeId} {g cap n : Nat} {l : List α} (h : w.ownsRow base e k (.slice (some ⟨g, 0, none⟩) n cap) l.length (l.flatMap enc)) :
    HoldsK enc k w g 0 l.toArray ∧ base ≤ g ∧ g < w.heap.size ∧ n = l.length := by
  obtain ⟨h1, h2⟩ := h
  rcases h2 with ⟨h2, _⟩ | ⟨g', cap', cur, hv, hb, hg, hc, hm, hs, ht⟩
  · cases h2
  · cases hv
    refine ⟨fun j hj => ?_, hb, (Array.getElem?_eq_some_iff.1 hg).1, rfl⟩
    have hj' : j < l.length * k := by simpa using hj
    have hcur : cur[j]? = some ((enc l[j / k]!)[j % k]!) := by
      have := flatMap_get hk l j hj'
      rw [← ht, List.getElem?_take_of_lt hj'] at this
      simpa using this
    constructor
    · rw [get_flatK _ _ _ _ (by simpa using hj'), Nat.zero_add]
      simp only [World.cell?, hg]
      rw [hcur]
      simp
    · simp [World.frozen?, hg]

theorem owns_of_sort (hk : ∀ x, (enc x).length = k) {w : World} {base : Nat} {e : TypeId} {g cap n : Nat} {l l' : List α} (h : w.ownsRow base e k (.slice (some ⟨g, 0, none⟩) n cap) l.length (l.flatMap enc)) (hl : l'.length = l.length) (m : Nat) (os : Array Obj) :
    (sortWorldK enc k w g 0 m l'.toArray os).ownsRow base e k (.slice (some ⟨g, 0, none⟩) n cap) l'.length (l'.flatMap enc) := by
  obtain ⟨h1, h2⟩ := h
  rcases h2 with ⟨h2, _⟩ | ⟨g', cap', cur, hv, hb, hg, hc, hm, hs, ht⟩
  · cases h2
  · cases hv
    have hlt : g < w.heap.size := (Array.getElem?_eq_some_iff.1 hg).1
    refine ⟨length_flatMap hk l', .inr ⟨g, cap, putCells id 0 (flatK enc k l'.toArray) cur, by rw [hl], hb, ?_, by omega, hm, by simp [putCells, hs], ?_⟩⟩
    · show (grow (putRow id (Sort.ahead w m) g 0 (flatK enc k l'.toArray)) os).heap[g]? = _
      simp only [grow, putRow, mapBlock, Sort.ahead]
      rw [Array.getElem?_append_left (by simpa using hlt)]
      rw [Array.getElem?_modify, if_pos rfl, hg]
      rfl
    · apply List.ext_getElem?
      intro t
      have hle : l'.length * k ≤ cur.size := by rw [hs, hl]; exact Nat.mul_le_mul_right _ hc
      by_cases htl : t < l'.length * k
      · rw [List.getElem?_take_of_lt htl, flatMap_get hk l' t htl]
        have hts : t < cur.size := by omega
        simp only [putCells, Array.getElem?_toList, Array.getElem?_mapIdx]
        rw [Array.getElem?_eq_getElem hts]
        simp only [Option.map_some, Nat.sub_zero, Nat.zero_le, true_and, Nat.zero_add, id_eq]
        rw [if_pos (by simpa using htl), get_flatK _ _ _ _ (by simpa using htl)]
        simp
      · rw [List.getElem?_eq_none (by simp; omega), List.getElem?_eq_none (by rw [length_flatMap hk]; omega)]

theorem below_of_sort {w : World} {g m : Nat} {l' : List α} {os : Array Obj} (hg : g < w.heap.size) : Below g w (sortWorldK enc k w g 0 m l'.toArray os) := by
  refine ⟨rfl, rfl, rfl, ?_, fun i hi => ?_⟩
  · show w.heap.size ≤ (grow (putRow id (Sort.ahead w m) g 0 (flatK enc k l'.toArray)) os).heap.size
    simp [grow, putRow, mapBlock, Sort.ahead]
  · show (grow (putRow id (Sort.ahead w m) g 0 (flatK enc k l'.toArray)) os).heap[i]? = _
    simp only [grow, putRow, mapBlock, Sort.ahead]
    rw [Array.getElem?_append_left (by simp; omega), Array.getElem?_modify, if_neg (by omega)]

theorem others_of_sort {w : World} {g m : Nat} {l' : List α} {os : Array Obj} {i : Nat} (hi : i < w.heap.size) (hne : i ≠ g) : (sortWorldK enc k w g 0 m l'.toArray os).heap[i]? = w.heap[i]? := by
  show (grow (putRow id (Sort.ahead w m) g 0 (flatK enc k l'.toArray)) os).heap[i]? = _
  simp only [grow, putRow, mapBlock, Sort.ahead]
  rw [Array.getElem?_append_left (by simp; omega), Array.getElem?_modify, if_neg (by omega)]
end
end Go.Proofs.YtfoifdhcelcgiaaGreatDoor
