/-
  POST: PostLoads, walked.
-/
import Derived.Test.YtamnffcafbfojaaAges
import Derived.Test.YtamnffcafbfojaaLoad
import Derived.BigQuiet
namespace Go.Proofs.Ytamnffcafbfojaa
open Go Go.RowKit

theorem ksort_perm {xs ys : List (Int × Int)} (hp : xs.Perm ys) : ksort xs = ksort ys := by
  unfold ksort
  have tr : ∀ a b c : Int × Int, (!ltOf korder b a) = true → (!ltOf korder c b) = true → (!ltOf korder c a) = true := fun a b c h1 h2 => by
    rw [Bool.not_eq_true'] at *
    exact korder_swo.ntrans _ _ _ h2 h1
  have to : ∀ a b : Int × Int, ((!ltOf korder b a) || (!ltOf korder a b)) = true := fun a b => by
    cases h1 : ltOf korder b a
    · rfl
    · have : ltOf korder a b = false := (ltOf_no a b).2 (by have := (ltOf_yes b a).1 h1; omega)
      rw [this]; rfl
  refine List.Perm.eq_of_pairwise (le := fun a b => (!ltOf korder b a) = true) (fun a b _ _ h1 h2 => ?_) (List.pairwise_mergeSort tr to xs) (List.pairwise_mergeSort tr to ys) (((List.mergeSort_perm xs _).trans hp).trans (List.mergeSort_perm ys _).symm)
  rw [Bool.not_eq_true'] at *
  exact korder_total a b h2 h1

theorem length_sent1 (W : List Dv) (s t : Int) : (sent1 W s t).length ≤ W.length + 1 := by
  unfold sent1
  have := List.length_filter_le (fun d => decide (d.key ≠ (t, s))) W
  simp only [List.length_cons]
  omega

theorem length_sentN (W : List Dv) (s m : Int) : ∀ n, (sentN W s m n).length ≤ W.length + n
  | 0 => by simp [sentN]
  | n + 1 => by
    have ih := length_sentN W s m n
    unfold sentN
    split
    · have := length_sent1 (sentN W s m n) s n; omega
    · omega

theorem length_loadW (es : List Ent) (W : List Dv) : ∀ n, (loadW es W n).length ≤ W.length + 5 * n
  | 0 => by simp [loadW]
  | n + 1 => by
    have ih := length_loadW es W n
    unfold loadW stepW
    split
    · have := length_sentN (loadW es W n) (n + 1) (es.getD n default).mask 5; omega
    · omega

theorem keyIn_loadW (es : List Ent) (W : List Dv) (x : Int × Int) : ∀ n : Nat, keyIn (loadW es W n) x → (∃ k i : Nat, k < 5 ∧ i < n ∧ x = ((k : Int), (i : Int) + 1)) ∨ keyIn W x
  | 0, h => .inr h
  | n + 1, h => by
    unfold loadW stepW at h
    split at h
    · rcases (keyIn_sentN _ _ _ _ 5).1 h with ⟨k, hk, _, rfl⟩ | h
      · exact .inl ⟨k, n, hk, by omega, rfl⟩
      · rcases keyIn_loadW es W x n h with ⟨k, i, hk, hi, rfl⟩ | h
        · exact .inl ⟨k, i, hk, by omega, rfl⟩
        · exact .inr h
    · rcases keyIn_loadW es W x n h with ⟨k, i, hk, hi, rfl⟩ | h
      · exact .inl ⟨k, i, hk, by omega, rfl⟩
      · exact .inr h

theorem loadW_small (es : List Ent) (n : Nat) (hn : n ≤ 1000) : ∀ d ∈ loadW es [] n, I64 d.to ∧ I64 d.seq := fun d hd => by
  rcases keyIn_loadW es [] d.key n ⟨d, hd, rfl⟩ with ⟨k, i, hk, hi, h⟩ | ⟨d, hd, _⟩
  · have h1 : d.to = k := (Prod.mk.inj h).1
    have h2 : d.seq = (i : Int) + 1 := (Prod.mk.inj h).2
    rw [h1, h2]
    unfold I64
    omega
  · simp at hd

theorem IsPost.drewN {w : World} {pb mw mc : Nat} {W : List Dv} {C : List ((Int × Int) × Int)} (h : IsPost w pb mw mc W C) (n : Nat) : IsPost (w.drewN n) pb mw mc W C :=
  h.below (w' := w.drewN n) ⟨rfl, rfl, rfl, Nat.le_refl _, fun _ _ => rfl⟩

set_option maxRecDepth 100000 in
set_option maxHeartbeats 1000000 in
theorem loads_any (p1 : Option Addr) (cap1 : Nat) (es : List Ent) (w : World) (hE : EntsAt w w.heap.size p1 es) (hz : es.length ≤ 9223372036854775807) :
    Calls Try.prog 6 #[.slice p1 es.length cap1] w fun e w' => e = .returned (.bool true) ∧ Below w.heap.size w w' := by
  have HE := Lib.hid hE
  have HZ := Lib.hid hz
  clear hE hz
  by_cases g1 : 30 < es.length
  · go_enter Try.func6, Try.ntmps6
    go_wp2_with fail
    refine (alive_any _).mono ?_
    rintro e w1 ⟨rfl, hb1⟩
    go_wp2_with fail
    go_ret
    exact ⟨rfl, hb1⟩
  have m1 : es.length ≤ 30 := by omega
  clear g1
  obtain ⟨hi, Z, hZ, hZ2⟩ := zero_of (P := Try.prog) entInfo
  have Z1 := Lib.hid hZ
  have Z2 := Lib.hid hZ2
  have Z3 := Lib.hid hi
  clear hZ hZ2 hi
  go_enter Try.func6, Try.ntmps6
  go_wp2_with fail
  refine (alive_any _).mono ?_
  rintro e w1 ⟨rfl, hb1⟩
  have G1 := Lib.hid hb1
  have A1 := Lib.hid (HE.out.below hb1)
  have S1 := Lib.hid hb1.size
  clear hb1
  go_wp2_with fail
  refine (new_any _).mono ?_
  rintro e w2 ⟨pb, mw, mc, rfl, hp2, hb2, q1, q2, q3⟩
  have hpw := hp2.wait.lt
  have hpc := hp2.came.lt
  have hpb := (Array.getElem?_eq_some_iff.1 hp2.box).1
  have G2 := Lib.hid hp2
  have G3 := Lib.hid hb2
  clear hp2 hb2
  go_wp2_with fail
  refine (new_any _).mono ?_
  rintro e w3 ⟨qb, nw, nc, rfl, hq3, hb3, r1, r2, r3⟩
  have G4 := Lib.hid hq3
  have G5 := Lib.hid (G2.out.below hb3)
  have G6 := Lib.hid (G3.out.trans (hb3.mono G3.out.size))
  clear hb3 hq3
  go_wp2_with fail
  refine (load_any pb mw mc w.heap.size [] [] p1 cap1 es w3 G5.out (A1.out.below (G6.out.mono S1.out)) (by omega) (by have := S1.out; have := G6.out.size; omega) (by have := S1.out; omega) (by have := S1.out; omega)).mono ?_
  rintro e w4 ⟨rfl, hp4, hk4⟩
  have hq4 := G4.out.keeps hk4 (by rintro (h | h) <;> omega) (by rintro (h | h) <;> omega) (by rintro (h | h) <;> omega)
  have hb4 : Below w1.heap.size w1 w4 := G6.out.trans (hk4.toBelow G6.out.size (by rintro i hi (h | h) <;> omega))
  have G7 := Lib.hid hp4
  have G8 := Lib.hid hq4
  have G9 := Lib.hid hb4
  clear hp4 hk4 hq4 hb4
  go_wp2_with fail
  -- the entries, one by one, into the other
  go_loopw [24] (fun i wr => ∃ n : Nat, n ≤ es.length ∧ i = .int .i64 n ∧ IsPost wr qb nw nc (loadW es [] n) (loadC es [] n) ∧ IsPost wr pb mw mc (loadW es [] es.length) (loadC es [] es.length) ∧ Below w1.heap.size w1 wr) (fun i _ => es.length - (intOf i).toNat)
  case atStart => exact ⟨0, by omega, rfl, G8.out, G7.out, G9.out⟩
  case round =>
    obtain ⟨n, hn1, rfl, hq, hp, hbr⟩ := hrel
    by_cases hlt : n < es.length
    · obtain ⟨b, off, rfl, hb, cs, hcs, hec⟩ := A1.out n hlt
      have hcs' : cellsAt wr b (off + n * 73) cs := hcs.of_block (hbr.block b (by have := S1.out; omega))
      have HEW : Hid (loadW es [] (n + 1) = stepW (loadW es [] n) n (es.getD n default)) := rfl
      have HEC : Hid (loadC es [] (n + 1) = stepC (loadC es [] n) n (es.getD n default)) := rfl
      generalize es.getD n default = e at hec HEW HEC
      have H5 := Lib.hid hec
      have H6 := Lib.hid hcs'
      have k0 : (wr.alloc (.cells cs.toArray 44)).cell? ⟨wr.heap.size, 0, none⟩ = some (.int .i64 e.kind) := new_cell hec.kind
      have k1 : (wr.alloc (.cells cs.toArray 44)).cell? ⟨wr.heap.size, 36, none⟩ = some (.int .i64 e.from_) := new_cell hec.from_
      have k2 : (wr.alloc (.cells cs.toArray 44)).cell? ⟨wr.heap.size, 37, none⟩ = some (.int .i64 e.seq) := new_cell hec.seq
      have k3 : (wr.alloc (.cells cs.toArray 44)).cell? ⟨wr.heap.size, 70, none⟩ = some (.int .i64 e.mask) := new_cell hec.mask
      have hqA := hq.below ((Below.refl _ wr).alloc (Nat.le_refl _) (.cells cs.toArray 44))
      have hpA := hp.below ((Below.refl _ wr).alloc (Nat.le_refl _) (.cells cs.toArray 44))
      have hnw := hq.wait.lt
      have hbA := hbr.alloc hbr.size (.cells cs.toArray 44)
      have HQ := Lib.hid hqA
      have HP := Lib.hid hpA
      have HB := Lib.hid hbA
      clear hec hcs hcs' hp hq hbr hpA hqA hbA
      by_cases e3 : e.kind = 3
      · have d3 : (e.kind == 3) = true := by simpa using e3
        have d2 : (e.kind == 2) = false := by simp [e3]
        have sW : stepW (loadW es [] n) n e = sentN (loadW es [] n) (n + 1) e.mask 5 := if_pos e3
        have sC : stepC (loadC es [] n) n e = loadC es [] n := if_neg (by omega)
        have HW := Lib.hid (HEW.out.trans sW)
        have HC := Lib.hid (HEC.out.trans sC)
        clear sW sC e3
        go_wp2_with (first
          | (refine wpList_loadAgg _ rfl 44 _ rfl _ Try.underlying44 rfl b (off + n * 73) rfl cs (by rw [Z3.out, H5.out.len]) H6.out ?_)
          | (refine wpList_allocZ _ rfl 44 rfl Z Z1.out ?_)
          | (refine wpList_storeNew _ wr rfl 44 _ _ rfl Z.cells rfl rfl cs.toArray rfl (by rw [Z3.out, List.size_toArray, H5.out.len]) (by rw [Z2.out, List.size_toArray, H5.out.len]) (by simpa using H5.out.one) ?_))
        refine (sent_any qb nw nc _ _ ((n : Int) + 1) e.mask _ HQ.out (by unfold I64; omega)).mono ?_
        rintro x w5 ⟨rfl, hq5, hg5, hs5⟩
        rw [← HW.out, ← HC.out] at hq5
        have hk5 : Keeps (· = nw) _ w5 := Keeps.of_grown hg5 rfl
        have c5 : w5.cell? ⟨wr.heap.size, 0, none⟩ = some (.int .i64 e.kind) := (World.cell?_of_block (a := ⟨wr.heap.size, 0, none⟩) (hk5.block wr.heap.size (by simp) (by intro h; omega))).trans k0
        have hp5 := HP.out.keeps hk5 (by intro h; omega) (by intro h; omega) (by intro h; omega)
        have hb5 := HB.out.trans (Below.of_grown hg5 (by omega) HB.out.size)
        have G10 := Lib.hid hq5
        have G11 := Lib.hid hp5
        have G12 := Lib.hid hb5
        clear hk5 hp5 hb5 hg5 hq5 hs5
        go_wp2
        go_roundw
        case rel => exact ⟨n + 1, by omega, by go_num, G10.out, G11.out, G12.out⟩
        case measure => simp [intOf]; omega
      have d3 : (e.kind == 3) = false := by simpa using e3
      have sW : stepW (loadW es [] n) n e = loadW es [] n := if_neg e3
      have HW := Lib.hid (HEW.out.trans sW)
      clear sW
      by_cases e2 : e.kind = 2
      · have d2 : (e.kind == 2) = true := by simpa using e2
        have sC : stepC (loadC es [] n) n e = comes (loadC es [] n) (e.from_, e.seq) (n + 1) := if_pos e2
        have HC := Lib.hid (HEC.out.trans sC)
        clear sC e2 e3
        go_wp2_with (first
          | (refine wpList_loadAgg _ rfl 44 _ rfl _ Try.underlying44 rfl b (off + n * 73) rfl cs (by rw [Z3.out, H5.out.len]) H6.out ?_)
          | (refine wpList_allocZ _ rfl 44 rfl Z Z1.out ?_)
          | (refine wpList_storeNew _ wr rfl 44 _ _ rfl Z.cells rfl rfl cs.toArray rfl (by rw [Z3.out, List.size_toArray, H5.out.len]) (by rw [Z2.out, List.size_toArray, H5.out.len]) (by simpa using H5.out.one) ?_))
        refine (came_any qb nw nc _ _ (e.from_, e.seq) ((n : Int) + 1) _ HQ.out H5.out.i1 H5.out.i2).mono ?_
        rintro x w5 ⟨rfl, hq5, hg5, hs5⟩
        rw [← HW.out, ← HC.out] at hq5
        have hk5 : Keeps (· = nc) _ w5 := Keeps.of_grown hg5 rfl
        have hp5 := HP.out.keeps hk5 (by intro h; omega) (by intro h; omega) (by intro h; omega)
        have hb5 := HB.out.trans (Below.of_grown hg5 (by omega) HB.out.size)
        have G10 := Lib.hid hq5
        have G11 := Lib.hid hp5
        have G12 := Lib.hid hb5
        clear hk5 hp5 hb5 hg5 hq5 hs5
        go_wp2
        go_roundw
        case rel => exact ⟨n + 1, by omega, by go_num, G10.out, G11.out, G12.out⟩
        case measure => simp [intOf]; omega
      · have d2 : (e.kind == 2) = false := by simpa using e2
        have sC : stepC (loadC es [] n) n e = loadC es [] n := if_neg e2
        have HC := Lib.hid (HEC.out.trans sC)
        clear sC e2 e3
        go_wp2_with (first
          | (refine wpList_loadAgg _ rfl 44 _ rfl _ Try.underlying44 rfl b (off + n * 73) rfl cs (by rw [Z3.out, H5.out.len]) H6.out ?_)
          | (refine wpList_allocZ _ rfl 44 rfl Z Z1.out ?_)
          | (refine wpList_storeNew _ wr rfl 44 _ _ rfl Z.cells rfl rfl cs.toArray rfl (by rw [Z3.out, List.size_toArray, H5.out.len]) (by rw [Z2.out, List.size_toArray, H5.out.len]) (by simpa using H5.out.one) ?_))
        go_roundw
        case rel => exact ⟨n + 1, by omega, by go_num, by rw [HW.out, HC.out]; exact HQ.out, HP.out, HB.out⟩
        case measure => simp [intOf]; omega
    · obtain rfl : n = es.length := by omega
      have hI0 := loadW_small es es.length (by omega)
      have hLen : (loadW es [] es.length).length ≤ 150 := by have := length_loadW es [] es.length; simp at this; omega
      generalize hW0 : loadW es [] es.length = W at *
      generalize hC0 : loadC es [] es.length = C at *
      have G10 := Lib.hid hq
      have G11 := Lib.hid hp
      have G12 := Lib.hid hbr
      have G13 := Lib.hid hI0
      have G14 := Lib.hid hLen
      clear hp hq hbr hlt hn1 hI0 hLen G7 G8 G9
      clear hW0 hC0
      obtain ⟨w5, rfl⟩ : ∃ w5 : World, w5 = wr := ⟨_, rfl⟩
      go_wp2_with fail
      refine (dues_any pb mw mc W C w5 G11.out G13.out (by have := G14.out; omega)).mono ?_
      rintro e w6 ⟨v, xs, rfl, hS, hrow, hb⟩
      have hTl : (ksort xs).length ≤ 150 := by unfold ksort; rw [List.length_mergeSort, hS.length_eq, List.length_map]; exact G14.out
      obtain ⟨T, hT⟩ : ∃ T, T = ksort xs := ⟨_, rfl⟩
      rw [← hT] at hrow hTl
      obtain ⟨pv, capv, rfl⟩ := owns_slice hrow
      have R1 := Lib.hid hrow
      have R2 := Lib.hid hb
      have R3 := Lib.hid (G11.out.below hb)
      have R4 := Lib.hid (G10.out.below hb)
      have R5 := Lib.hid hS
      have R6 := Lib.hid hT
      clear hrow hb hS hT
      go_wp2_with fail
      refine (dues_any qb nw nc W C w6 R4.out G13.out (by have := G14.out; omega)).mono ?_
      rintro e w7 ⟨v, ys, rfl, hS, hrow, hb⟩
      rw [ksort_perm (hS.trans R5.out.symm), ← R6.out] at hrow
      obtain ⟨pn, capn, rfl⟩ := owns_slice hrow
      have R7 := Lib.hid hrow
      have R8 := Lib.hid hb
      have R9 := Lib.hid (R3.out.below hb)
      have R10 := Lib.hid (R4.out.below hb)
      clear hrow hb hS
      go_wp2_with fail
      go_loopw [61] (fun i wr => ∃ j : Nat, j ≤ T.length ∧ i = .int .i64 j ∧ Below w7.heap.size w7 wr) (fun i _ => T.length - (intOf i).toNat)
      case atStart => exact ⟨0, by omega, rfl, Below.refl _ _⟩
      case round =>
        obtain ⟨j, hj, rfl, hbr⟩ := hrel
        have R12 := Lib.hid hbr
        clear hbr
        by_cases hlt : j < T.length
        · obtain ⟨g0, rfl, hg0, hg1, hc⟩ := due_cells R1.out (fun _ => rfl) hlt
          obtain ⟨g2, rfl, hg2, hg3, hd⟩ := due_cells R7.out (fun _ => rfl) hlt
          have tr : ∀ m, wr.cell? ⟨g0, m, none⟩ = w6.cell? ⟨g0, m, none⟩ := fun m => by
            have e2 : w7.cell? ⟨g0, m, none⟩ = w6.cell? ⟨g0, m, none⟩ := R8.out.cell (p := ⟨g0, m, none⟩) hg1
            have e3 : wr.cell? ⟨g0, m, none⟩ = w7.cell? ⟨g0, m, none⟩ := R12.out.cell (p := ⟨g0, m, none⟩) (Nat.lt_of_lt_of_le hg1 R8.out.size)
            rw [e3, e2]
          have c0 : wr.cell? ⟨g0, j * 3, none⟩ = some (.int .i64 T[j]!.2) := (tr _).trans (hc 0 (by omega))
          have c1 : wr.cell? ⟨g0, j * 3 + 1, none⟩ = some (.int .i64 T[j]!.1) := (tr _).trans (hc 1 (by omega))
          have c2 : wr.cell? ⟨g0, j * 3 + 2, none⟩ = some (.int .i64 (getW W T[j]!)) := (tr _).trans (hc 2 (by omega))
          have d0 : wr.cell? ⟨g2, j * 3, none⟩ = some (.int .i64 T[j]!.2) := (R12.out.cell (p := ⟨g2, j * 3, none⟩) hg3).trans (hd 0 (by omega))
          have d1 : wr.cell? ⟨g2, j * 3 + 1, none⟩ = some (.int .i64 T[j]!.1) := (R12.out.cell (p := ⟨g2, j * 3 + 1, none⟩) hg3).trans (hd 1 (by omega))
          have d2 : wr.cell? ⟨g2, j * 3 + 2, none⟩ = some (.int .i64 (getW W T[j]!)) := (R12.out.cell (p := ⟨g2, j * 3 + 2, none⟩) hg3).trans (hd 2 (by omega))
          generalize T[j]! = x at c0 c1 c2 d0 d1 d2
          generalize getW W x = y at c2 d2
          clear hc hd tr
          go_wp2
          go_quiet (fail)
          go_wp2
          go_roundw
          case rel => exact ⟨j + 1, by omega, by go_num, ⟨R12.out.os, R12.out.tape, R12.out.output, R12.out.size, R12.out.block⟩⟩
          case measure => simp [intOf]; omega
        · obtain rfl : j = T.length := by omega
          obtain ⟨w8, rfl⟩ : ∃ w8 : World, w8 = wr := ⟨_, rfl⟩
          have hb8 : Below w1.heap.size w1 w8 := (((G12.out.trans (R2.out.mono G12.out.size)).trans (R8.out.mono (by have := G12.out.size; have := R2.out.size; omega))).trans (R12.out.mono (by have := G12.out.size; have := R2.out.size; have := R8.out.size; omega)))
          have hp8 := R9.out.below R12.out
          have hq8 := R10.out.below R12.out
          have U1 := Lib.hid hb8
          have U2 := Lib.hid hp8
          have U3 := Lib.hid hq8
          clear hb8 hp8 hq8
          go_wp2_with fail
          go_loopw [76] (fun i wr => ∃ n : Nat, n ≤ es.length ∧ i = .int .i64 n ∧ Below w8.heap.size w8 wr) (fun i _ => es.length - (intOf i).toNat)
          case atStart => exact ⟨0, by omega, rfl, Below.refl _ _⟩
          case round =>
            obtain ⟨m, hm, rfl, hbr⟩ := hrel
            by_cases hlt : m < es.length
            · obtain ⟨b, off, rfl, hb, cs, hcs, hec⟩ := A1.out m hlt
              have hcs' : cellsAt wr b (off + m * 73) cs := hcs.of_block ((hbr.block b (by have := S1.out; have := U1.out.size; omega)).trans (U1.out.block b (by have := S1.out; omega)))
              generalize es.getD m default = e at hec
              have H5 := Lib.hid hec
              have H6 := Lib.hid hcs'
              have k1 : (wr.alloc (.cells cs.toArray 44)).cell? ⟨wr.heap.size, 36, none⟩ = some (.int .i64 e.from_) := new_cell hec.from_
              have k2 : (wr.alloc (.cells cs.toArray 44)).cell? ⟨wr.heap.size, 37, none⟩ = some (.int .i64 e.seq) := new_cell hec.seq
              have hB := hbr.alloc hbr.size (.cells cs.toArray 44)
              have hPP := U2.out.below hB
              have hQQ := U3.out.below hB
              have V1 := Lib.hid hB
              have V2 := Lib.hid hPP
              have V3 := Lib.hid hQQ
              clear hec hcs hcs' hbr hB hPP hQQ
              go_wp2_with (first
          | (refine wpList_loadAgg _ rfl 44 _ rfl _ Try.underlying44 rfl b (off + m * 73) rfl cs (by rw [Z3.out, H5.out.len]) H6.out ?_)
          | (refine wpList_allocZ _ rfl 44 rfl Z Z1.out ?_)
          | (refine wpList_storeNew _ wr rfl 44 _ _ rfl Z.cells rfl rfl cs.toArray rfl (by rw [Z3.out, List.size_toArray, H5.out.len]) (by rw [Z2.out, List.size_toArray, H5.out.len]) (by simpa using H5.out.one) ?_))
              obtain ⟨w9, hw9⟩ : ∃ w9 : World, w9 = wr.alloc (.cells cs.toArray 44) := ⟨_, rfl⟩
              rw [← hw9] at k1 k2 V1 V2 V3 ⊢
              clear hw9
              generalize wr.heap.size = bx at k1 k2 ⊢
              go_simp
              go_quiet (first
                | (go_at_call_of 15 (Value.pointer (some ⟨pb, 0, none⟩)); refine Calls.quiet_of_same (where_any pb mw mc W C (e.from_, e.seq) _ (V2.out.drewN _) H5.out.i1 H5.out.i2))
                | (go_at_call_of 15 (Value.pointer (some ⟨qb, 0, none⟩)); refine Calls.quiet_of_same (where_any qb nw nc W C (e.from_, e.seq) _ (V3.out.drewN _) H5.out.i1 H5.out.i2)))
              go_wp2
              go_roundw
              case rel => exact ⟨m + 1, by omega, by go_num, ⟨V1.out.os, V1.out.tape, V1.out.output, V1.out.size, V1.out.block⟩⟩
              case measure => simp [intOf]; omega
            · obtain rfl : m = es.length := by omega
              go_wp2
              go_ret
              exact ⟨rfl, (G1.out.trans (U1.out.mono G1.out.size)).trans (hbr.mono (by have := G1.out.size; have := U1.out.size; omega))⟩
end Go.Proofs.Ytamnffcafbfojaa
