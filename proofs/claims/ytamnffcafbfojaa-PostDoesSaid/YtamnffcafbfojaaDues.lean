/-
  POST: Dues.
-/
import Derived.Test.YtamnffcafbfojaaPost
namespace Go.Proofs.Ytamnffcafbfojaa
open Go Go.RowKit

theorem keysFn_any (mb : Option Nat) (w : World) : Calls Try.prog 28 #[.map mb] w fun e w' => e = .returned (.func (.func 32) #[] #[.pointer (some ⟨w.heap.size, 0, none⟩)]) ∧ w' = w.alloc (.cells #[.map mb] 57) := by
  go_enter Try.func28, Try.ntmps28
  go_wp2
  go_ret
  exact ⟨rfl, rfl⟩

theorem owned_cell {α : Type} {enc : α → List Value} {k : Nat} (hk : ∀ x, (enc x).length = k) [Inhabited α] {w : World} {base : Nat} {e : TypeId} {g cap n : Nat} {l : List α} (h : w.ownsRow base e k (.slice (some ⟨g, 0, none⟩) n cap) l.length (l.flatMap enc)) {i j : Nat} (hi : i < l.length) (hj : j < k) :
    w.cell? ⟨g, i * k + j, none⟩ = some ((enc l[i]!)[j]!) := by
  obtain ⟨hH, -, -, -⟩ := holdsK_of_owns hk h
  have hlt : i * k + j < l.length * k := by
    have := Nat.mul_le_mul_right k (show i + 1 ≤ l.length from hi)
    rw [Nat.add_mul, Nat.one_mul] at this
    omega
  have h1 := (hH (i * k + j) (by simpa using hlt)).1
  rw [Sort.get_flatK _ _ _ _ (by simpa using hlt), Nat.zero_add] at h1
  rw [h1]
  have k0 : 0 < k := by omega
  have e1 : (i * k + j) / k = i := by rw [Nat.mul_comm, Nat.mul_add_div k0, Nat.div_eq_of_lt hj, Nat.add_zero]
  have e2 : (i * k + j) % k = j := by rw [Nat.mul_comm, Nat.mul_add_mod, Nat.mod_eq_of_lt hj]
  rw [e1, e2]
  simp

theorem owns_slice {w : World} {base : Nat} {e : TypeId} {size : Nat} {v : Value} {n : Nat} {xs : List Value} (h : w.ownsRow base e size v n xs) : ∃ p cap, v = .slice p n cap := by
  rcases h.2 with ⟨h, h0⟩ | ⟨g, cap, cur, h, _⟩
  · exact ⟨none, 0, by rw [h, h0]⟩
  · exact ⟨_, _, h⟩

theorem cells_at (w : World) (n : Nat) (hn : w.heap.size = n) (cs : List Value) (e : TypeId) : ∀ (j : Nat) (u : Value), cs[j]? = some u → (w.alloc (.cells cs.toArray e)).cell? ((⟨n, 0, none⟩ : Addr).add j) = some u := by
  subst hn
  exact cells_new w cs e

theorem IsPost.below {w w' : World} {pb mw mc : Nat} {W : List Dv} {C : List ((Int × Int) × Int)} (h : IsPost w pb mw mc W C) (hb : Below w.heap.size w w') : IsPost w' pb mw mc W C :=
  ⟨(hb.block pb (Array.getElem?_eq_some_iff.1 h.box).1).trans h.box, h.wait.of_block (hb.block _ h.wait.lt), h.came.of_block (hb.block _ h.came.lt), h.ne⟩

def dcell (W : List Dv) (k : Int × Int) : List Value := [.int .i64 k.2, .int .i64 k.1, .int .i64 (getW W k)]
theorem dueInfo : (Try.prog.info? 32).map (fun i => (i.zero, i.size, i.bytes)) = some (some (.agg #[.int .i64 0, .int .i64 0, .int .i64 0]), 3, 24) := by kernel_rfl

set_option maxRecDepth 100000 in
set_option maxHeartbeats 400000 in
theorem dues_any (pb mw mc : Nat) (W : List Dv) (C : List ((Int × Int) × Int)) (w : World) (h : IsPost w pb mw mc W C) (hI : ∀ d ∈ W, I64 d.to ∧ I64 d.seq) (hL : W.length * 24 ≤ 140737488355328) :
    Calls Try.prog 12 #[.pointer (some ⟨pb, 0, none⟩)] w fun e w' => ∃ v xs, e = .returned v ∧ xs.Perm (W.map Dv.key) ∧
      w'.ownsRow w.heap.size 32 3 v (ksort xs).length ((ksort xs).flatMap (dcell W)) ∧ Below w.heap.size w w' := by
  have c1 : w.cell? ⟨pb, 0, none⟩ = some (.map (some mw)) := by simp [World.cell?, h.box]
  obtain ⟨i0, hi, hz0, hz1, hz2⟩ := info_parts dueInfo
  have hmB : (w.alloc (.cells #[.map (some mw)] 57)).cell? ⟨w.heap.size, 0, none⟩ = some (.map (some mw)) := by rw [cell_of_row _ _ _ _ _ _ (World.alloc_heap_new w _)]; rfl
  have hown1 : hasMap Try.prog 61 (w.alloc (.cells #[.map (some mw)] 57)) mw (W.map fun d => (kv d.key, wval d)) := h.wait.of_block (Below.heap_alloc _ _ _ h.wait.lt)
  have hs := sortedKeys_in mw W Dv.key wval (w.alloc (.cells #[.map (some mw)] 57)) w.heap.size (by simp) (by omega) hmB hown1
  have H := Lib.hid h
  have HI := Lib.hid hI
  clear h hI hown1 hmB
  go_enter Try.func12, Try.ntmps12
  go_wp2_with (first
    | (go_at_call 28; refine (keysFn_any _ _).mono ?_; rintro e w' ⟨rfl, rfl⟩)
    | (go_at_call 27; refine hs.mono ?_; rintro e w1 ⟨v, xs, rfl, hS, hrow, hb⟩; obtain ⟨p, cap0, rfl⟩ := owns_slice hrow))
  have hlen : (ksort xs).length = W.length := by unfold ksort; rw [List.length_mergeSort, hS.length_eq]; simp
  have hbw : Below w.heap.size w w1 := ((Below.refl _ w).alloc (Nat.le_refl _) _).trans (hb.mono (by simp))
  have H1 := Lib.hid hS
  have H2 := Lib.hid hrow
  have H3 := Lib.hid hbw
  have H4 := Lib.hid hlen
  clear hb hs
  rcases hrow.2 with ⟨hv, h0⟩ | ⟨g, cap, cur, hv, hg, hgb, hc1, hc2, hc3, hc4⟩
  · clear hS hrow hbw hlen
    obtain ⟨rfl, rfl⟩ : p = none ∧ cap0 = 0 := by simp at hv; exact ⟨hv.1, hv.2.2⟩
    have hz : ((ksort xs).length : Int) = 0 := by omega
    have H5 := Lib.hid h0
    clear h0 hv
    go_wp2
    refine wp_loop_rounds 1 ?_
    rw [rounds_succ]
    go_wp2
    go_ret
    refine ⟨_, xs, rfl, H1.out, ?_, H3.out⟩
    have : ksort xs = [] := List.eq_nil_of_length_eq_zero H5.out
    rw [this]
    exact World.ownsRow_nil _ _ _ _
  · clear hgb hc1 hc2 hc3 hc4 hS hrow hbw
    cases hv
    have hgw : g < w1.heap.size := (holdsK_of_owns (enc := kenc) (fun _ => rfl) H2.out).2.2.1
    have hcell : ∀ (i j : Nat), i < (ksort xs).length → j < 2 → w1.cell? ⟨g, i * 2 + j, none⟩ = some ((kenc (ksort xs)[i]!)[j]!) := fun i j a b => owned_cell (enc := kenc) (fun _ => rfl) H2.out a b
    have H6 := Lib.hid hcell
    clear hcell hlen
    generalize hks : ksort xs = ks at *
    have hm : ks.length ≤ 5864062014805 := by have := H4.out; omega
    go_wp2
    go_loopw [4, 17] (fun v i wr => ∃ n : Nat, n ≤ ks.length ∧ i = .int .i64 n ∧ wr.ownsRow w1.heap.size 32 3 v n ((ks.take n).flatMap (dcell W)) ∧ Below w1.heap.size w1 wr) (fun _ i _ => ks.length - (intOf i).toNat)
    case atStart => exact ⟨0, Nat.zero_le _, rfl, World.ownsRow_nil _ _ _ _, Below.refl _ _⟩
    case round =>
      obtain ⟨n, hn, rfl, hrow, hbr⟩ := hrel
      by_cases hlt : n < ks.length
      · have k0 : wr.cell? ⟨g, n * 2, none⟩ = some (.int .i64 ks[n]!.1) := (hbr.cell (p := ⟨g, n * 2, none⟩) hgw).trans (H6.out n 0 hlt (by omega))
        have k1 : wr.cell? ⟨g, n * 2 + 1, none⟩ = some (.int .i64 ks[n]!.2) := (hbr.cell (p := ⟨g, n * 2 + 1, none⟩) hgw).trans (H6.out n 1 hlt (by omega))
        have hin : ks[n]! ∈ ks := by rw [getElem!_pos ks n hlt]; exact List.getElem_mem _
        have htk : ks.take (n + 1) = ks.take n ++ [ks[n]!] := by rw [List.take_succ_eq_append_getElem hlt, getElem!_pos ks n hlt]
        generalize hk : ks[n]! = k at k0 k1 hin htk
        have hki : I64 k.1 ∧ I64 k.2 := by
          have h1 : k ∈ xs := by rw [← hks] at hin; exact (List.mergeSort_perm _ _).mem_iff.1 hin
          obtain ⟨d, hd, rfl⟩ := List.mem_map.1 (H1.out.mem_iff.1 h1)
          exact HI.out d hd
        have hbrw : Below w.heap.size w wr := H3.out.trans (hbr.mono H3.out.size)
        have hp := (H.out.below hbrw).below ((Below.refl _ wr).alloc (Nat.le_refl _) (.cells #[.int .i64 k.1, .int .i64 k.2] 61)).drew
        have hl := hp.lookW hki.1 hki.2 false
        simp only [Bool.false_eq_true, if_false] at hl
        have cp : wr.cell? ⟨pb, 0, none⟩ = some (.map (some mw)) := by simp [World.cell?, (H.out.below hbrw).box]
        have cp2 : ∀ o, (wr.alloc o).cell? ⟨pb, 0, none⟩ = some (.map (some mw)) := fun o => (World.cell?_of_block (Below.heap_alloc wr o pb (World.block_lt_of_cell? wr _ cp))).trans cp
        have hsz := hbr.size
        have H7 := Lib.hid htk
        have H8 := Lib.hid hrow
        have H9 := Lib.hid hbr
        clear hk hrow hbr hp hbrw hki hin htk
        go_wp2
        refine wp_region_any (by kernel_rfl) ?_
        change wpAny _ _ _ _ _ _ _ (World.drew _)
        refine wpAny_move (i := 0) _ rfl rfl rfl (by kernel_rfl) (by kernel_rfl) (by kernel_rfl) (fun _ _ _ _ h => h) ?_
        refine wpAny_tailF 12 (by kernel_rfl) rfl ?_
        simp only [List.take_succ_cons, List.take_zero, List.drop_succ_cons, List.drop_zero]
        refine wpStillF_skip rfl ?_
        go_simp
        repeat (refine wpStillF_step rfl (fun K hK => ?_); go_simp; refine hK _ ?_; clear hK K)
        refine wpStillF_nil ?_
        go_wp2_with (first
          | (at_builtin; refine wpList_append_own _ rfl _ _ 29 rfl w1.heap.size 32 i0 (.agg #[.int .i64 0, .int .i64 0, .int .i64 0]) 3 24 Try.underlying29 hi hz0 hz1 hz2 rfl (by decide) _ _ _ rfl ((H8.out.alloc (.cells #[.int .i64 k.1, .int .i64 k.2] 61)).alloc (.cells #[.int .i64 k.2, .int .i64 k.1, .int .i64 (getW W k)] 32)) ⟨wr.heap.size + 1, 0, none⟩ 1 1 [.int .i64 k.2, .int .i64 k.1, .int .i64 (getW W k)] rfl rfl (cells_at (wr.alloc (.cells #[.int .i64 k.1, .int .i64 k.2] 61)) (wr.heap.size + 1) (by simp) [.int .i64 k.2, .int .i64 k.1, .int .i64 (getW W k)] 32) (by simp [Value.oneCell']) (by unfold maxLen; omega) (by omega) (by simp; omega) ?_; intro v' w2 hown' hgrow _))
        have H10 := Lib.hid hown'
        have H11 := Lib.hid hgrow
        clear hown' hgrow
        go_roundw
        case rel =>
          refine ⟨n + 1, by omega, by go_num, ?_, ?_⟩
          · rw [H7.out, List.flatMap_append]
            simpa [dcell] using H10.out
          · have hb1 : Below w1.heap.size w1 ((wr.alloc (.cells #[.int .i64 k.1, .int .i64 k.2] 61)).alloc (.cells #[.int .i64 k.2, .int .i64 k.1, .int .i64 (getW W k)] 32)).drew := ((H9.out.alloc hsz _).alloc (by simp; omega) _).drew
            exact hb1.grown H11.out hb1.size (fun r e => (H8.out.lt r e).1)
        case measure => simp [intOf]; omega
      · obtain rfl : n = ks.length := by omega
        go_wp2
        go_ret
        refine ⟨_, xs, rfl, H1.out, ?_, H3.out.trans (hbr.mono H3.out.size)⟩
        rw [hks]
        rw [List.take_length] at hrow
        exact ⟨hrow.1, by
          rcases hrow.2 with h | ⟨g', cap', cur', h1, h2, h3⟩
          · exact .inl h
          · exact .inr ⟨g', cap', cur', h1, Nat.le_trans H3.out.size h2, h3⟩⟩
end Go.Proofs.Ytamnffcafbfojaa
