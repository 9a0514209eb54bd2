/-
  maps.Keys AND slices.Collect AT A MAP KEYED BY post.key: the keys, each once, in some order.
-/
import Derived.Test.YtamnffcafbfojaaIterIn
import Derived.Test.YtamnffcafbfojaaRows
namespace Go.Proofs.Ytamnffcafbfojaa
open Go Go.RowKit Go.Shelf
attribute [local go_sem] Oper.semAt_some

def kv (x : Int × Int) : Value := .agg #[.int .i64 x.1, .int .i64 x.2]
def kenc (x : Int × Int) : List Value := [.int .i64 x.1, .int .i64 x.2]

set_option maxRecDepth 100000 in
set_option maxHeartbeats 1000000 in
theorem keys1_in {β : Type} (F : Fence) (n : Nat) (h32 : F.fn 32) (hro : F.round = none) (hn : 1 ≤ n) (l Bm b : Nat) (L : List β) (kf : β → Int × Int) (vf : β → Value) (J Jx : List (Int × Int) → World → Prop)
    (W : World) (hJ : AbidesFrom W.heap.size J)
    (hY : ∀ pre x W1, J pre W1 → pre.length < L.length → YieldAt F (n - 1) Try.prog l #[kv x] W1 fun e W' =>
      (e = .returned (.bool true) ∧ J (pre ++ [x]) W' ∧ KeepsWalks W1 W') ∨ (e = .returned (.bool false) ∧ Jx (pre ++ [x]) W'))
    (hm : W.cell? ⟨Bm, 0, none⟩ = some (.map (some b))) (hown : hasMap Try.prog 61 W b (L.map fun x => (kv (kf x), vf x))) (h0 : J [] W) :
    CallsIn F n Try.prog 32 #[.func (.yield l) #[] #[], .pointer (some ⟨Bm, 0, none⟩)] W fun e W' => (∃ v, e = .returned v) ∧
      ((∃ xs, xs.Perm (L.map kf) ∧ J xs W') ∨ (∃ pre : List (Int × Int), True ∧ Jx pre W')) := by
  refine callsIn_of_wp Try.func32 rfl h32 ?_ hro
  simp only [Try.ntmps32, List.size_toArray, List.length_cons, List.length_nil, Nat.reduceAdd, Nat.reduceSub, Array.replicate_succ, Array.replicate_zero, List.push_toArray, List.append_toArray, List.nil_append, List.cons_append]
  gi_wp2_with (first
    | (gi_at_range; refine wpListIn_rangeL _ rfl _ 57 rfl 61 3 Try.underlying57 b _ rfl hown ?_; intro w0 hrg0 hg0 hs0)
    | gi_in)
  go_frame
  gi_loopw [3] (fun _ wr => ∃ (left : List β) (ss : List (Int × Int)), iterOn Try.prog 61 wr W.heap.size b (L.map fun x => (kv (kf x), vf x)) (left.map fun x => (kv (kf x), vf x)) ∧ (L.map kf).Perm (ss ++ left.map kf) ∧ J ss wr)
    (fun _ wr => wr.rangeLeft b W.heap.size)
  case atStart =>
    exact ⟨L, [], hrg0, by simp, hJ [] W w0 none h0 hg0 (fun r e => by cases e)⟩
  case round =>
    obtain ⟨left, ss, hrg, hp, hJs⟩ := hrel
    gi_wp2_with (first
      | (gi_at_next; refine wpListIn_nextL _ rfl _ rfl 61 (fun x => kv (kf x)) vf W.heap.size b _ left rfl hrg ?_ ?_)
      | gi_in)
    · intro hl0
      gi_wp2
      go_end0
      subst hl0
      exact ⟨⟨_, rfl⟩, .inl ⟨ss, by simpa using hp.symm, hJs⟩⟩
    · intro x left' w2 hperm hrg2 hg2 hs2 hen
      have hJ2 : J ss w2 := hJ ss wr w2 (some W.heap.size) hJs hg2 (fun r e => by cases e; exact ⟨Nat.le_refl _, hrg.iter_walk⟩)
      have hJ3 : J ss (w2.alloc (.cells #[.int .i64 (kf x).1, .int .i64 (kf x).2] 61)) := hJ ss w2 _ none hJ2 (World.grownBy_alloc _ _ _) (fun r e => by cases e)
      have hlen : ss.length < L.length := by
        have h1 := hp.length_eq
        have h2 := hperm.length_eq
        simp at h1 h2
        omega
      obtain ⟨fn, tmps, assign, body, hy, hR⟩ := hY ss (kf x) _ hJ3 hlen
      have hrg3 : iterOn Try.prog 61 (w2.alloc (.cells #[.int .i64 (kf x).1, .int .i64 (kf x).2] 61)) W.heap.size b (L.map fun x => (kv (kf x), vf x)) (left'.map fun x => (kv (kf x), vf x)) :=
        hrg2.of_walks (KeepsWalks.alloc _ _)
      clear hs2
      unfold kv at hen hy
      unfold kv
      gi_wp2
      refine hR.mono ?_
      rintro e W3 (⟨rfl, hJ3', hk3⟩ | ⟨rfl, hJx⟩)
      · gi_wp2
        have hrg4 := hrg3.of_walks hk3
        go_roundw
        case rel => exact ⟨left', ss ++ [kf x], hrg4, by rw [List.append_assoc]; refine hp.trans (List.Perm.append_left _ ?_); simpa using hperm.map kf, hJ3'⟩
        case measure =>
          rw [hrg4.left_eq, hrg.left_eq]
          have h2 := hperm.length_eq
          simp at h2 ⊢
          omega
      · gi_wp2
        refine bodyPost_ret (results_none rfl _ _ _) rfl ?_
        exact ⟨⟨_, rfl⟩, .inr ⟨_, trivial, hJx⟩⟩
end Go.Proofs.Ytamnffcafbfojaa
