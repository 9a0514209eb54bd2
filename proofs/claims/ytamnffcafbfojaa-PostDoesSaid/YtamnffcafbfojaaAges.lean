/-
  POST: PostAges, walked.
-/
import Derived.Test.YtamnffcafbfojaaAgesP
import Derived.Test.YtamnffcafbfojaaWaits
namespace Go.Proofs.Ytamnffcafbfojaa
open Go Go.RowKit

def want (again : Int) (t : Nat) (x : Int × Int) : Int := if x.2 = again then 0 else (t : Int)

theorem due_cells {w : World} {base : Nat} {e : TypeId} {T : List (Int × Int)} {f : Int × Int → List Value} {pv : Option Addr} {cap : Nat} (h : w.ownsRow base e 3 (.slice pv T.length cap) T.length (T.flatMap f)) (hf : ∀ x, (f x).length = 3) {j : Nat} (hj : j < T.length) :
    ∃ g, pv = some ⟨g, 0, none⟩ ∧ base ≤ g ∧ g < w.heap.size ∧ ∀ m, m < 3 → w.cell? ⟨g, j * 3 + m, none⟩ = some ((f T[j]!)[m]!) := by
  obtain ⟨g, cap0, hv⟩ : ∃ g cap0, (Value.slice pv T.length cap) = .slice (some ⟨g, 0, none⟩) T.length cap0 := by
    rcases h.2 with ⟨_, h0⟩ | ⟨g, cap0, cur, h, _⟩
    · omega
    · exact ⟨g, cap0, h⟩
  cases hv
  obtain ⟨_, h1, h2, _⟩ := holdsK_of_owns hf h
  exact ⟨g, rfl, h1, h2, fun m hm => owned_cell hf h hj hm⟩

set_option maxRecDepth 100000 in
set_option maxHeartbeats 1000000 in
theorem ages_any (p1 : Option Addr) (cap1 : Nat) (zs : List Int) (ticks again : Int) (w : World) (hA : IntsAt w p1 zs) (hn : I64 ticks) (ha : I64 again) (hz : zs.length ≤ 9223372036854775807) :
    Calls Try.prog 4 #[.slice p1 zs.length cap1, .int .i64 ticks, .int .i64 again] w fun e w' => e = .returned (.bool true) ∧ Below w.heap.size w w' := by
  have HA := Lib.hid hA
  have HN := Lib.hid hn
  have HG := Lib.hid ha
  have HZ := Lib.hid hz
  clear hA hn hz ha
  by_cases g1 : 40 < zs.length
  · go_enter Try.func4, Try.ntmps4
    go_wp2_with fail
    refine (alive_any _).mono ?_
    rintro e w1 ⟨rfl, hb1⟩
    go_wp2_with fail
    go_ret
    exact ⟨rfl, hb1⟩
  by_cases g3 : ticks < 0
  · go_enter Try.func4, Try.ntmps4
    go_wp2_with fail
    refine (alive_any _).mono ?_
    rintro e w1 ⟨rfl, hb1⟩
    go_wp2_with fail
    go_ret
    exact ⟨rfl, hb1⟩
  by_cases g4 : 100 < ticks
  · go_enter Try.func4, Try.ntmps4
    go_wp2_with fail
    refine (alive_any _).mono ?_
    rintro e w1 ⟨rfl, hb1⟩
    go_wp2_with fail
    go_ret
    exact ⟨rfl, hb1⟩
  have m1 : zs.length ≤ 40 := by omega
  obtain ⟨t, rfl⟩ : ∃ t : Nat, ticks = t := ⟨ticks.toNat, by omega⟩
  have m3 : t ≤ 100 := by omega
  clear g1 g3 g4
  go_enter Try.func4, Try.ntmps4
  go_wp2_with fail
  refine (alive_any _).mono ?_
  rintro e w1 ⟨rfl, hb1⟩
  have G1 := Lib.hid hb1
  have A1 := Lib.hid (HA.out.below hb1)
  clear hb1
  go_wp2_with fail
  refine (new_any _).mono ?_
  rintro e w2 ⟨pb, mw, mc, rfl, hp2, hb2, q1, q2, q3⟩
  have G2 := Lib.hid hp2
  have G3 := Lib.hid hb2
  clear hp2 hb2
  go_wp2_with fail
  go_loopw [32] (fun i wr => ∃ n : Nat, n ≤ zs.length ∧ i = .int .i64 n ∧ IsPost wr pb mw mc (sentL zs n) [] ∧ Below w1.heap.size w1 wr) (fun i _ => zs.length - (intOf i).toNat)
  case atStart => exact ⟨0, by omega, rfl, G2.out, G3.out⟩
  case round =>
    obtain ⟨n, hn, rfl, hp, hbr⟩ := hrel
    by_cases hlt : n < zs.length
    · obtain ⟨b, off, rfl, hbw, hc, hI⟩ := A1.out n hlt
      have k0 : wr.cell? ⟨b, off + n, none⟩ = some (.int .i64 (zs.getD n 0)) := (hbr.cell (p := ⟨b, off + n, none⟩) hbw).trans hc
      have HS : Hid (sentN (sentL zs n) (n + 1) (zs.getD n 0) 5 = sentL zs (n + 1)) := rfl
      generalize zs.getD n 0 = x at *
      have G4 := Lib.hid hp
      have G6 := Lib.hid hbr
      clear hp hbr hc hI
      go_wp2_with fail
      refine (sent_any pb mw mc _ [] ((n : Int) + 1) x wr G4.out (by unfold I64; omega)).mono ?_
      rintro e w3 ⟨rfl, hp3, hg3, hs3⟩
      rw [HS.out] at hp3
      have G8 := Lib.hid hp3
      have G9 := Lib.hid (G6.out.trans (Below.of_grown hg3 q2 G6.out.size))
      clear hp3 hg3 hs3
      go_wp2
      go_roundw
      case rel => exact ⟨n + 1, by omega, by go_num, G8.out, G9.out⟩
      case measure => simp [intOf]; omega
    · obtain rfl : n = zs.length := by omega
      have hI0 : ∀ d ∈ sentL zs zs.length, I64 d.to ∧ I64 d.seq := fun d hd => keys_small (x := d.key) ⟨d, hd, rfl⟩ m1
      have hLen : (sentL zs zs.length).length ≤ 200 := by
        have h1 := (perm_of_keyIn (zs := zs) hp.nodup (fun _ => Iff.rfl)).length_eq
        have h2 := length_preE zs [] 0 zs.length
        rw [List.length_map] at h1
        unfold keysT at h1
        omega
      have G4 := Lib.hid hp
      have G6 := Lib.hid hbr
      have G7 := Lib.hid hI0
      have G8 := Lib.hid hLen
      clear hp hbr hlt hn G2 G3 hI0 hLen
      obtain ⟨w3, rfl⟩ : ∃ w3 : World, w3 = wr := ⟨_, rfl⟩
      go_wp2_with fail
      refine (dues_any pb mw mc _ [] w3 G4.out G7.out (by have := G8.out; omega)).mono ?_
      rintro e w4 ⟨v, xs, rfl, hS, hrow, hb⟩
      rw [sorted_of_keyIn hS G4.out.nodup (fun _ => Iff.rfl)] at hrow
      have hdc : dcell (sentL zs zs.length) = fun k => [.int .i64 k.2, .int .i64 k.1, .int .i64 0] := by funext k; unfold dcell; rw [getW_zero (zero_sentL _ _)]
      rw [hdc] at hrow
      obtain ⟨T, hT⟩ : ∃ T, T = keysT zs := ⟨_, rfl⟩
      rw [← hT] at hrow
      have hTl : T.length ≤ 200 := by
        have h2 := length_preE zs [] 0 zs.length
        rw [hT]; unfold keysT; omega
      obtain ⟨pv, capv, rfl⟩ := owns_slice hrow
      have R1 := Lib.hid hrow
      have R2 := Lib.hid hb
      have R3 := Lib.hid (G4.out.below hb)
      have R4 := Lib.hid hT
      clear hrow hb hdc hS hT
      go_wp2_with fail
      -- the ticks
      go_loopw [11] (fun i wr => ∃ n : Nat, n ≤ t ∧ i = .int .i64 n ∧ IsPost wr pb mw mc (agedN (sentL zs zs.length) n) [] ∧ w4.grownBy wr (some mw)) (fun i _ => t - (intOf i).toNat)
      case atStart => exact ⟨0, by omega, rfl, R3.out, grownBy_refl _ _⟩
      case round =>
        obtain ⟨n, hn, rfl, hp, hg⟩ := hrel
        have hI1 : ∀ d ∈ agedN (sentL zs zs.length) n, I64 d.to ∧ I64 d.seq := fun d hd => keys_small (x := d.key) ((keyIn_agedN _ _ n).1 ⟨d, hd, rfl⟩) m1
        by_cases hlt : n < t
        · have G9 := Lib.hid hp
          have G10 := Lib.hid hg
          have G11 := Lib.hid hI1
          clear hp hg hI1
          go_wp2_with fail
          refine (tick_any pb mw mc _ [] wr G9.out G11.out).mono ?_
          rintro e w5 ⟨rfl, hp5, hg5⟩
          have G12 := Lib.hid hp5
          have G13 := Lib.hid (grownBy_trans G10.out hg5)
          clear hp5 hg5
          go_wp2
          go_roundw
          case rel => exact ⟨n + 1, by omega, by go_num, G12.out, G13.out⟩
          case measure => simp [intOf]; omega
        · obtain rfl : n = t := by omega
          obtain ⟨w5, rfl⟩ : ∃ w5 : World, w5 = wr := ⟨_, rfl⟩
          have hBw : Below w1.heap.size w1 w5 := (G6.out.trans (R2.out.mono G6.out.size)).trans (Below.of_grown hg q2 (by have := G6.out.size; have := R2.out.size; omega))
          have hage := age_again zs n (by omega) again
          have hkin := keyIn_again zs n again
          have G9 := Lib.hid hp
          have G10 := Lib.hid hg
          have G11 := Lib.hid hage
          have G12 := Lib.hid hkin
          have G13 := Lib.hid hBw
          clear hp hg hage hkin hBw hI1 hlt hn
          rcases Classical.em (1 ≤ again ∧ again ≤ (zs.length : Int)) with g | g
          -- it is sent again
          obtain ⟨g1, g2⟩ := g
          obtain ⟨i, hi⟩ : ∃ i : Nat, again - 1 = i := ⟨(again - 1).toNat, by omega⟩
          have hi2 : i < zs.length := by omega
          obtain ⟨b, off, rfl, hbw, hc, hI⟩ := A1.out i hi2
          have k0 : w5.cell? ⟨b, off + i, none⟩ = some (.int .i64 (zs.getD i 0)) := (G13.out.cell (p := ⟨b, off + i, none⟩) hbw).trans hc
          have HS : Hid (sentN (agedN (sentL zs zs.length) n) again (zs.getD i 0) 5 = sentAgain (agedN (sentL zs zs.length) n) zs again) := by
            unfold Hid sentAgain
            rw [if_pos ⟨g1, g2⟩, hi, Int.toNat_natCast]
          generalize zs.getD i 0 = x at *
          clear hc hI
          go_wp2_with fail
          refine (sent_any pb mw mc _ [] again x w5 G9.out HG.out).mono ?_
          rintro e w6 ⟨rfl, hp6, hg6, hs6⟩
          rw [HS.out] at hp6
          have R5 := Lib.hid hp6
          have R6 := Lib.hid (grownBy_trans G10.out hg6)
          clear hp6 hg6 hs6 k0 hi hi2
          rotate_left
          -- it is not: two ways
          iterate 2
            have R5 : Hid (IsPost w5 pb mw mc (sentAgain (agedN (sentL zs zs.length) n) zs again) []) := by
              unfold Hid sentAgain
              rw [if_neg g]
              exact G9.out
            have R6 := G10
            obtain ⟨w6, rfl⟩ : ∃ w6 : World, w6 = w5 := ⟨_, rfl⟩
            clear g
            rotate_left
          all_goals
            have hW2 : ∀ d ∈ sentAgain (agedN (sentL zs zs.length) n) zs again, I64 d.to ∧ I64 d.seq := fun d hd => keys_small (x := d.key) ((G12.out _).1 ⟨d, hd, rfl⟩) m1
            have hWl : (sentAgain (agedN (sentL zs zs.length) n) zs again).length ≤ 200 := by
              have h1 := (perm_of_keyIn (zs := zs) R5.out.nodup G12.out).length_eq
              rw [List.length_map, ← R4.out] at h1
              omega
            have R7 := Lib.hid hW2
            have R8 := Lib.hid hWl
            clear hW2 hWl
            go_wp2_with fail
            all_goals
              refine (dues_any pb mw mc _ [] w6 R5.out R7.out (by have := R8.out; omega)).mono ?_
              rintro e w7 ⟨v, xs2, rfl, hS, hrow, hb⟩
              rw [sorted_of_keyIn hS R5.out.nodup G12.out, ← R4.out] at hrow
              obtain ⟨pn, capn, rfl⟩ := owns_slice hrow
              have hval : ∀ x ∈ T, getW (sentAgain (agedN (sentL zs zs.length) n) zs again) x = want again n x := fun x hx =>
                getW_age (f := fun d => if d.seq = again then 0 else (n : Int)) (g := want again n) R5.out.nodup G11.out (fun _ => rfl) ((perm_of_keyIn R5.out.nodup G12.out).mem_iff.2 (by rw [← R4.out]; exact hx))
              have R9 := Lib.hid hrow
              have R10 := Lib.hid hb
              have R11 := Lib.hid hval
              clear hrow hb hval hS
              go_wp2_with fail
              go_loopw [72] (fun i wr => ∃ j : Nat, j ≤ T.length ∧ i = .int .i64 j ∧ Below w7.heap.size w7 wr) (fun i _ => T.length - (intOf i).toNat)
              case atStart => exact ⟨0, by omega, rfl, Below.refl _ _⟩
              case round =>
                obtain ⟨j, hj, rfl, hbr⟩ := hrel
                have R12 := Lib.hid hbr
                clear hbr
                by_cases hlt : j < T.length
                · obtain ⟨g0, rfl, hg0, hg1, hc⟩ := due_cells R1.out (fun _ => rfl) hlt
                  obtain ⟨g2, rfl, hg2, hg3, hd⟩ := due_cells R9.out (fun _ => rfl) hlt
                  have hin : T[j]! ∈ T := by rw [getElem!_pos T j hlt]; exact List.getElem_mem _
                  have hne : g0 ≠ mw := fun e => by have := G4.out.wait.lt; omega
                  have tr : ∀ m, wr.cell? ⟨g0, m, none⟩ = w4.cell? ⟨g0, m, none⟩ := fun m => by
                    have e1 : w6.cell? ⟨g0, m, none⟩ = w4.cell? ⟨g0, m, none⟩ := World.cell?_of_block (R6.out.block g0 hg1 (fun e => hne (by cases e; rfl)))
                    have h6 : g0 < w6.heap.size := Nat.lt_of_lt_of_le hg1 R6.out.size
                    have e2 : w7.cell? ⟨g0, m, none⟩ = w6.cell? ⟨g0, m, none⟩ := R10.out.cell (p := ⟨g0, m, none⟩) h6
                    have e3 : wr.cell? ⟨g0, m, none⟩ = w7.cell? ⟨g0, m, none⟩ := R12.out.cell (p := ⟨g0, m, none⟩) (Nat.lt_of_lt_of_le h6 R10.out.size)
                    rw [e3, e2, e1]
                  have c0 : wr.cell? ⟨g0, j * 3, none⟩ = some (.int .i64 T[j]!.2) := (tr _).trans (hc 0 (by omega))
                  have c1 : wr.cell? ⟨g0, j * 3 + 1, none⟩ = some (.int .i64 T[j]!.1) := (tr _).trans (hc 1 (by omega))
                  have c2 : wr.cell? ⟨g0, j * 3 + 2, none⟩ = some (.int .i64 0) := (tr _).trans (hc 2 (by omega))
                  have d0 : ∀ o, (wr.alloc o).cell? ⟨g2, j * 3, none⟩ = some (.int .i64 T[j]!.2) := fun o => (World.cell?_of_block (Below.heap_alloc wr o g2 (Nat.lt_of_lt_of_le hg3 R12.out.size))).trans ((R12.out.cell (p := ⟨g2, j * 3, none⟩) hg3).trans (hd 0 (by omega)))
                  have d1 : ∀ o, (wr.alloc o).cell? ⟨g2, j * 3 + 1, none⟩ = some (.int .i64 T[j]!.1) := fun o => (World.cell?_of_block (Below.heap_alloc wr o g2 (Nat.lt_of_lt_of_le hg3 R12.out.size))).trans ((R12.out.cell (p := ⟨g2, j * 3 + 1, none⟩) hg3).trans (hd 1 (by omega)))
                  have d2 : ∀ o, (wr.alloc o).cell? ⟨g2, j * 3 + 2, none⟩ = some (.int .i64 (want again n T[j]!)) := fun o => (World.cell?_of_block (Below.heap_alloc wr o g2 (Nat.lt_of_lt_of_le hg3 R12.out.size))).trans ((R12.out.cell (p := ⟨g2, j * 3 + 2, none⟩) hg3).trans ((hd 2 (by omega)).trans (by rw [← R11.out _ hin]; rfl)))
                  generalize T[j]! = x at c0 c1 d0 d1 d2
                  clear hc hd tr hin
                  have hge : decide ((T.length : Int) ≤ (j : Int)) = false := by simp; omega
                  by_cases hs : x.2 = again
                  · have hs' : (x.2 == again) = true := by simpa using hs
                    have hw : want again n x = 0 := by unfold want; rw [if_pos hs]
                    rw [hw] at d2
                    clear hs hw
                    go_wp2
                    go_quiet (fail)
                    go_wp2
                    go_roundw
                    case rel =>
                      have hB := R12.out.alloc R12.out.size (.cells #[.int .i64 x.2, .int .i64 x.1, .int .i64 0] 32)
                      exact ⟨j + 1, by omega, by go_num, ⟨hB.os, hB.tape, hB.output, hB.size, hB.block⟩⟩
                    case measure => simp [intOf]; omega
                  · have hs' : (x.2 == again) = false := by simpa using hs
                    have hw : want again n x = n := by unfold want; rw [if_neg hs]
                    rw [hw] at d2
                    clear hs hw
                    go_wp2
                    go_quiet (fail)
                    go_wp2
                    go_roundw
                    case rel =>
                      have hB := R12.out.alloc R12.out.size (.cells #[.int .i64 x.2, .int .i64 x.1, .int .i64 0] 32)
                      exact ⟨j + 1, by omega, by go_num, ⟨hB.os, hB.tape, hB.output, hB.size, hB.block⟩⟩
                    case measure => simp [intOf]; omega
                · obtain rfl : j = T.length := by omega
                  go_wp2
                  go_ret
                  refine ⟨by simp, ?_⟩
                  have z1 := G1.out.size
                  have z2 := G6.out.size
                  have z3 := R2.out.size
                  have z4 := R6.out.size
                  have z5 := R10.out.size
                  exact ((((G1.out.trans (G6.out.mono z1)).trans (R2.out.mono (by omega))).trans (Below.of_grown R6.out (by omega) (by omega))).trans (R10.out.mono (by omega))).trans (R12.out.mono (by omega))
#print axioms ages_any
end Go.Proofs.Ytamnffcafbfojaa
