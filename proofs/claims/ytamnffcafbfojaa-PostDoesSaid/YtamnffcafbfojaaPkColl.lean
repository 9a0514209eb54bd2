/-
  slices.Collect(maps.Keys(m)) AT A MAP KEYED BY post.key: a new slice of its keys, in some order.
-/
import Derived.Test.YtamnffcafbfojaaPkKeys
namespace Go.Proofs.Ytamnffcafbfojaa
open Go Go.RowKit Go.Shelf
attribute [local go_sem] Oper.semAt_some

theorem cells_new (w : World) (cs : List Value) (e : TypeId) : ∀ (j : Nat) (u : Value), cs[j]? = some u → (w.alloc (.cells cs.toArray e)).cell? ((⟨w.heap.size, 0, none⟩ : Addr).add j) = some u := by
  intro j u h
  have hadd : (⟨w.heap.size, 0, none⟩ : Addr).add j = ⟨w.heap.size, j, none⟩ := by unfold Addr.add; split <;> simp_all
  rw [hadd, cell_of_row _ _ _ cs.toArray e (0, 0) (World.alloc_heap_new w _)]
  simpa using h

theorem pkInfo : (Try.prog.info? 61).map (fun i => (i.zero, i.size, i.bytes)) = some (some (.agg #[.int .i64 0, .int .i64 0]), 2, 16) := by kernel_rfl

theorem keys_stops {β : Type} (F : Fence) (n : Nat) (h32 : F.fn 32) (hro : F.round = none) (hn : 1 ≤ n) (Bm b : Nat) (L : List β) (kf : β → Int × Int) (vf : β → Value) (w : World) (hBm : Bm < w.heap.size)
    (hm : w.cell? ⟨Bm, 0, none⟩ = some (.map (some b))) (hown : hasMap Try.prog 61 w b (L.map fun x => (kv (kf x), vf x))) :
    SeqStopsK F n Try.prog 32 #[.pointer (some ⟨Bm, 0, none⟩)] (fun x => #[kv x]) KeepsWalks (fun xs => xs.Perm (L.map kf)) (fun _ => True) L.length w :=
  fun l J Jx W hW hJ _ hY h0 =>
    keys1_in F n h32 hro hn l Bm b L kf vf J Jx W hJ hY ((hW.cell (p := ⟨Bm, 0, none⟩) hBm).trans hm) (hown.of_block (hW.block b hown.lt)) h0

set_option maxRecDepth 100000 in
set_option maxHeartbeats 2000000 in
theorem appendSeq_in (F : Fence) (n : Nat) (h33 : F.fn 33) (hro : F.round = none) (hn : 3 ≤ n) (gf : Nat) (lb : Array Value) (hFg : F.fn gf) (eg : ∀ args w, (callFunc gf args).run Try.prog w = .ok (.enter gf args) w)
    (S : List (Int × Int) → Prop) (N : Nat) (hN : N ≤ maxLen) (hNb : N * 16 ≤ 140737488355328) (w : World)
    (hseq : SeqStopsK F (n - 1) Try.prog gf lb (fun x => #[kv x]) KeepsWalks S (fun _ => True) N w) :
    CallsIn F n Try.prog 33 #[.slice none 0 0, .func (.func gf) #[] lb] w fun e w' => ∃ (v : Value) (xs : List (Int × Int)), e = .returned v ∧ S xs ∧
      w'.ownsRow w.heap.size 61 2 v xs.length (xs.flatMap kenc) ∧ Below w.heap.size w w' := by
  have h1 : 1 ≤ n := by omega
  obtain ⟨i0, hi, hz0, hz1, hz2⟩ := info_parts pkInfo
  refine callsIn_of_wp_marks Try.func33 rfl h33 ?_ hro
  simp only [Try.ntmps33, List.size_toArray, List.length_cons, List.length_nil, Nat.reduceAdd, Nat.reduceSub, Array.replicate_succ, Array.replicate_zero, List.push_toArray, List.append_toArray, List.nil_append, List.cons_append]
  gi_wp2
  have bS := Boxed.new w 65 (.slice none 0 0)
  have hB0 : Below w.heap.size w (w.alloc (.cells #[.slice none 0 0] 65)) := (Below.refl _ w).alloc (Nat.le_refl _) _
  have hsz : (w.alloc (.cells #[.slice none 0 0] 65)).heap.size = w.heap.size + 1 := by simp
  obtain ⟨W0, hW0⟩ : ∃ W0, w.alloc (.cells #[.slice none 0 0] 65) = W0 := ⟨_, rfl⟩
  rw [hW0] at bS hB0 hsz ⊢
  clear hW0
  refine wpIn_rangeFunc_ownH hro h1 (gf := gf) (lb := lb) rfl hFg eg hseq walksK_t walksK_b hB0 (fun _ => rfl)
    (fun pre W => (∃ v, Boxed W w.heap.size 65 v ∧ W.ownsRow w.heap.size 61 2 v pre.length (pre.flatMap kenc) ∧ True) ∧ Below w.heap.size w W)
    (fun _ _ _ => False)
    (OwnFrom.and (Own.from (holdsRow_own w.heap.size w.heap.size 65 61 2 (fun pre : List (Int × Int) => pre.length) (fun pre => pre.flatMap kenc) (fun _ _ => True)) _) (ownFrom_below (Nat.le_refl _) (by omega)))
    (fun _ _ _ _ _ hs _ _ => hs)
    ⟨⟨_, bS, World.ownsRow_nil _ _ _ _, trivial⟩, hB0⟩
    (fun x a' W => ∃ Bx, w.heap.size < Bx ∧ W.heap[Bx]? = some (.cells #[.int .i64 x.1, .int .i64 x.2] 61 (0, 0)) ∧ a' = { tmps := #[.slice none 0 0, .func (.func gf) #[] lb, .pointer (some ⟨w.heap.size, 0, none⟩), undef, .slice none 0 0, .pointer (some ⟨Bx, 0, none⟩), .func (.func gf) #[] lb, kv x, undef, undef, undef, undef, undef], defers := [] })
    (fun x a' _ X Y row hs hg hr => by
      obtain ⟨Bx, g1, g2, g3⟩ := hs
      refine ⟨Bx, g1, (hg.block Bx (Array.getElem?_eq_some_iff.1 g2).1 (fun e' => ?_)).trans g2, g3⟩
      obtain ⟨_, o, ho, hc⟩ := hr Bx e'.symm
      rw [g2] at ho; cases ho; cases hc)
    ?assign ?body ?done ?stop
  case assign =>
    rintro l pre x W K ⟨⟨v, hv, hrow, -⟩, hB1⟩ hK
    have hlt := hv.lt
    unfold kv
    gi_wp2
    refine hK _ _ ((KeepsOthers.alloc _ _).from _) (KeepsWalks.alloc _ _) ⟨⟨v, hv.alloc _, hrow.alloc _, trivial⟩, hB1.alloc hB1.size _⟩ ⟨W.heap.size, hlt, World.alloc_heap_new W _, ?_⟩
    rfl
  case body =>
    rintro l pre x a' W hl ⟨r, hr⟩ ⟨⟨v, hv, hrow, -⟩, hB1⟩ ⟨Bx, hBx, bX, rfl⟩ hlt
    have c1 := hv.cell
    have c2 : W.cell? ⟨Bx, 0, none⟩ = some (.int .i64 x.1) := by simp [World.cell?, bX]
    have c3 : W.cell? ⟨Bx, 1, none⟩ = some (.int .i64 x.2) := by simp [World.cell?, bX]
    clear bX
    have hsW := hB1.size
    have hne : 65 ≠ 61 := by decide
    unfold kv
    gi_wp2_with (first
      | (gi_at_builtin; refine wpListIn_append_own _ rfl _ _ 65 rfl w.heap.size 61 i0 (.agg #[.int .i64 0, .int .i64 0]) 2 16 Try.underlying65 hi hz0 hz1 hz2 rfl (by decide) _ _ _ rfl (hrow.alloc _) ⟨W.heap.size, 0, none⟩ 1 1 [.int .i64 x.1, .int .i64 x.2] rfl rfl (cells_new W [.int .i64 x.1, .int .i64 x.2] 61) (by simp [Value.oneCell']) (by omega) (by omega) (by simp; omega) ?_; intro v' w1 hown' hgrow _; obtain ⟨g', cap', rfl⟩ := ownsRow_succ hown'; obtain ⟨hv1, hv2, hr2, hk2, hb2⟩ := hv.appended hne hrow hB1.size (Nat.le_refl _) hown' hgrow; have hc1 := hv1.cell; have hf1 := hv1.frozen)
      | gi_in)
    refine ⟨hk2.from _, ?_, ⟨⟨_, hv2, ?_, trivial⟩, hB1.trans hb2⟩⟩
    · exact ⟨hk2.size, fun k o hk ho => hk2.same k o hk (by cases o <;> first | rfl | cases ho)⟩
    · simpa [kenc] using hr2
  case done =>
    rintro D zs W hD hS ⟨⟨v, hv, hrow, -⟩, hB1⟩ hK
    have cS := hv.cell
    gi_wp2
    refine ⟨by simp, .inl ⟨_, _, rfl, run_takeDeferred hK, ?_⟩⟩
    exact ⟨_, results_tmp rfl _ _ _, v, zs, rfl, hS, ownsRow_putObj hrow _ hK rfl, hB1.trans (belowK_b (w := w) (Nat.le_refl _) W D _ _ (by omega) hK rfl rfl)⟩
  case stop =>
    rintro D c pre W _ _ h _
    exact h.elim
end Go.Proofs.Ytamnffcafbfojaa
