/-
  POST: PostWaits, walked.
-/
import Derived.Test.YtamnffcafbfojaaWaitsP
import Derived.Test.YtamnffcafbfojaaFirst
namespace Go.Proofs.Ytamnffcafbfojaa
open Go Go.RowKit

theorem IntsAt.below {w w' : World} {p : Option Addr} {zs : List Int} (h : IntsAt w p zs) (hb : Below w.heap.size w w') : IntsAt w' p zs := fun i hi => by
  obtain ⟨b, off, h1, h2, h3, h4⟩ := h i hi
  exact ⟨b, off, h1, Nat.lt_of_lt_of_le h2 hb.size, (hb.cell (p := ⟨b, off + i, none⟩) h2).trans h3, h4⟩

set_option maxRecDepth 100000 in
set_option maxHeartbeats 1000000 in
theorem waits_any (p1 p2 : Option Addr) (cap1 cap2 : Nat) (zs ys : List Int) (node : Int) (w : World) (hA : IntsAt w p1 zs) (hB : IntsAt w p2 ys) (hn : I64 node) (hz : zs.length ≤ 9223372036854775807) (hy : ys.length ≤ 9223372036854775807) :
    Calls Try.prog 3 #[.slice p1 zs.length cap1, .slice p2 ys.length cap2, .int .i64 node] w fun e w' => e = .returned (.bool true) ∧ Below w.heap.size w w' := by
  have HA := Lib.hid hA
  have HB := Lib.hid hB
  have HN := Lib.hid hn
  have HZ := Lib.hid hz
  have HY := Lib.hid hy
  clear hA hB hn hz hy
  by_cases g1 : 40 < zs.length
  · go_enter Try.func3, Try.ntmps3
    go_wp2_with fail
    refine (alive_any _).mono ?_
    rintro e w1 ⟨rfl, hb1⟩
    go_wp2_with fail
    go_ret
    exact ⟨rfl, hb1⟩
  by_cases g2 : 100 < ys.length
  · go_enter Try.func3, Try.ntmps3
    go_wp2_with fail
    refine (alive_any _).mono ?_
    rintro e w1 ⟨rfl, hb1⟩
    go_wp2_with fail
    go_ret
    exact ⟨rfl, hb1⟩
  by_cases g3 : node < 0
  · go_enter Try.func3, Try.ntmps3
    go_wp2_with fail
    refine (alive_any _).mono ?_
    rintro e w1 ⟨rfl, hb1⟩
    go_wp2_with fail
    go_ret
    exact ⟨rfl, hb1⟩
  by_cases g4 : 4 < node
  · go_enter Try.func3, Try.ntmps3
    go_wp2_with fail
    refine (alive_any _).mono ?_
    rintro e w1 ⟨rfl, hb1⟩
    go_wp2_with fail
    go_ret
    exact ⟨rfl, hb1⟩
  have m1 : zs.length ≤ 40 := by omega
  have m2 : ys.length ≤ 100 := by omega
  have m3 : 0 ≤ node := by omega
  have m4 : node ≤ 4 := by omega
  clear g1 g2 g3 g4
  go_enter Try.func3, Try.ntmps3
  go_wp2_with fail
  refine (alive_any _).mono ?_
  rintro e w1 ⟨rfl, hb1⟩
  have G1 := Lib.hid hb1
  have A1 := Lib.hid (HA.out.below hb1)
  have B1 := Lib.hid (HB.out.below hb1)
  clear hb1
  go_wp2_with fail
  refine (new_any _).mono ?_
  rintro e w2 ⟨pb, mw, mc, rfl, hp2, hb2, q1, q2, q3⟩
  have G2 := Lib.hid hp2
  have G3 := Lib.hid hb2
  clear hp2 hb2
  go_wp2_with fail
  -- the masks
  go_loopw [41] (fun i wr => ∃ n : Nat, n ≤ zs.length ∧ i = .int .i64 n ∧ IsPost wr pb mw mc (sentL zs n) [] ∧ Below w1.heap.size w1 wr) (fun i _ => zs.length - (intOf i).toNat)
  case atStart => exact ⟨0, by omega, rfl, G2.out, G3.out⟩
  case round =>
    obtain ⟨n, hn, rfl, hp, hbr⟩ := hrel
    by_cases hlt : n < zs.length
    · obtain ⟨b, off, rfl, hbw, hc, hI⟩ := A1.out n hlt
      have k0 : wr.cell? ⟨b, off + n, none⟩ = some (.int .i64 (zs.getD n 0)) := (hbr.cell (p := ⟨b, off + n, none⟩) hbw).trans hc
      have HS : Hid (sentN (sentL zs n) (n + 1) (zs.getD n 0) 5 = sentL zs (n + 1)) := rfl
      generalize zs.getD n 0 = x at *
      have G4 := Lib.hid hp
      have G6 := Lib.hid hbr
      clear hp hbr hc hI
      go_wp2_with fail
      refine (sent_any pb mw mc _ [] ((n : Int) + 1) x wr G4.out (by unfold I64; omega)).mono ?_
      rintro e w3 ⟨rfl, hp3, hg3, hs3⟩
      rw [HS.out] at hp3
      have G8 := Lib.hid hp3
      have G9 := Lib.hid (G6.out.trans (Below.of_grown hg3 q2 G6.out.size))
      clear hp3 hg3 hs3
      go_wp2
      go_roundw
      case rel => exact ⟨n + 1, by omega, by go_num, G8.out, G9.out⟩
      case measure => simp [intOf]; omega
    · obtain rfl : n = zs.length := by omega
      have G4 := Lib.hid hp
      have G6 := Lib.hid hbr
      clear hp hbr hlt hn G2 G3
      obtain ⟨w3, rfl⟩ : ∃ w3 : World, w3 = wr := ⟨_, rfl⟩
      go_wp2_with fail
      -- the acks
      go_loopw [54] (fun i wr => ∃ n : Nat, n ≤ ys.length ∧ i = .int .i64 n ∧ IsPost wr pb mw mc (ackL (sentL zs zs.length) node ys n) [] ∧ Below w1.heap.size w1 wr) (fun i _ => ys.length - (intOf i).toNat)
      case atStart => exact ⟨0, by omega, rfl, G4.out, G6.out⟩
      case round =>
        obtain ⟨n, hn, rfl, hp, hbr⟩ := hrel
        by_cases hlt : n < ys.length
        · obtain ⟨b, off, rfl, hbw, hc, hI⟩ := B1.out n hlt
          have k0 : wr.cell? ⟨b, off + n, none⟩ = some (.int .i64 (ys.getD n 0)) := (hbr.cell (p := ⟨b, off + n, none⟩) hbw).trans hc
          have HS : Hid (acked (ackL (sentL zs zs.length) node ys n) (node, ys.getD n 0) = ackL (sentL zs zs.length) node ys (n + 1)) := rfl
          generalize ys.getD n 0 = x at *
          have G4 := Lib.hid hp
          have G6 := Lib.hid hbr
          have G7 := Lib.hid hI
          clear hp hbr hc hI
          go_wp2_with fail
          refine (acked_any pb mw mc _ [] (node, x) wr G4.out HN.out G7.out).mono ?_
          rintro e w4 ⟨rfl, hp3, hg3, hs3⟩
          rw [HS.out] at hp3
          have G8 := Lib.hid hp3
          have G9 := Lib.hid (G6.out.trans (Below.of_grown hg3 q2 G6.out.size))
          clear hp3 hg3 hs3
          go_wp2
          go_roundw
          case rel => exact ⟨n + 1, by omega, by go_num, G8.out, G9.out⟩
          case measure => simp [intOf]; omega
        · obtain rfl : n = ys.length := by omega
          obtain ⟨W, hW⟩ : ∃ W, W = ackL (sentL zs zs.length) node ys ys.length := ⟨_, rfl⟩
          rw [← hW] at hp
          have hperm := left_is zs ys node hW hp.nodup
          have hzero : Zero W := hW ▸ zero_ackL (zero_sentL _ _) _ _ _
          have hE : ∀ xs, xs.Perm (W.map Dv.key) → ksort xs = preE zs ys node zs.length 0 := fun xs h => ksort_of xs _ (h.trans hperm) (preE_sorted _ _ _ _)
          have hkey : ∀ d ∈ W, I64 d.to ∧ I64 d.seq := fun d hd => by
            have h1 : d.key ∈ preE zs ys node zs.length 0 := hperm.mem_iff.1 (List.mem_map.2 ⟨d, hd, rfl⟩)
            obtain ⟨i, k, e1, e2, e3, e4⟩ := (mem_preE _ _ _ _ _).1 h1
            have e5 : d.to = k := congrArg Prod.fst e4
            have e6 : d.seq = (i : Int) + 1 := congrArg Prod.snd e4
            rw [e5, e6]
            unfold I64
            omega
          have hWl : W.length ≤ 200 := by
            have h1 := hperm.length_eq
            have h2 := length_preE zs ys node zs.length
            rw [List.length_map] at h1
            omega
          have hD : ∀ wr, IsPost wr pb mw mc W [] → Calls Try.prog 12 #[.pointer (some ⟨pb, 0, none⟩)] wr fun e w' => ∃ p cap, e = .returned (.slice p (preE zs ys node zs.length 0).length cap) ∧
              w'.ownsRow wr.heap.size 32 3 (.slice p (preE zs ys node zs.length 0).length cap) (preE zs ys node zs.length 0).length ((preE zs ys node zs.length 0).flatMap fun k => [.int .i64 k.2, .int .i64 k.1, .int .i64 0]) ∧ Below wr.heap.size wr w' := fun wr h => by
            refine (dues_any pb mw mc W [] wr h hkey (by omega)).mono ?_
            rintro e w' ⟨v, xs, rfl, hS, hrow, hb⟩
            rw [hE xs hS] at hrow
            obtain ⟨p, cap, rfl⟩ := owns_slice hrow
            refine ⟨p, cap, rfl, ?_, hb⟩
            have : dcell W = fun k => [.int .i64 k.2, .int .i64 k.1, .int .i64 0] := by funext k; unfold dcell; rw [getW_zero hzero]
            rw [this] at hrow
            exact hrow
          have hAt : ∀ i k, i < zs.length → k < 5 → waitsB zs ys node i k = true → (preE zs ys node i k).length < (preE zs ys node zs.length 0).length ∧ (preE zs ys node zs.length 0)[(preE zs ys node i k).length]! = ((k : Int), (i : Int) + 1) := fun i k h1 h2 h3 => preE_at h1 h2 h3
          have hTl := length_preE zs ys node zs.length
          have D1 := Lib.hid hD
          have D2 := Lib.hid hAt
          have D3 := Lib.hid hp
          have D4 := Lib.hid hbr
          have D5 := Lib.hid hTl
          clear hD hAt hp hbr hperm hzero hE hkey hWl hW hlt hn G4 G6 hTl
          obtain ⟨w4, rfl⟩ : ∃ w4 : World, w4 = wr := ⟨_, rfl⟩
          obtain ⟨T, hT⟩ : ∃ T, T = preE zs ys node zs.length 0 := ⟨_, rfl⟩
          rw [← hT] at D1 D2 D5
          have HT := Lib.hid hT
          clear hT
          go_wp2_with fail
          go_loopw [12, 65] (fun c i wr => ∃ n : Nat, n ≤ zs.length ∧ i = .int .i64 n ∧ c = .int .i64 (preE zs ys node n 0).length ∧ IsPost wr pb mw mc W [] ∧ Below w1.heap.size w1 wr) (fun _ i _ => zs.length - (intOf i).toNat)
          case atStart => exact ⟨0, by omega, rfl, by simp [preE, rowE], D3.out, D4.out⟩
          case round =>
            obtain ⟨n, hn, rfl, rfl, hp, hbr⟩ := hrel
            have G4 := Lib.hid hp
            have G6 := Lib.hid hbr
            by_cases hlt : n < zs.length
            · obtain ⟨b, off, rfl, hbw, hc, hI⟩ := A1.out n hlt
              have k0 : wr.cell? ⟨b, off + n, none⟩ = some (.int .i64 (zs.getD n 0)) := (hbr.cell (p := ⟨b, off + n, none⟩) hbw).trans hc
              clear hp hbr hc hI
              generalize hx : zs.getD n 0 = x at *
              have HX := Lib.hid hx
              clear hx
              obtain ⟨w5, rfl⟩ : ∃ w5 : World, w5 = wr := ⟨_, rfl⟩
              go_wp2_with fail
              go_loopw [12, 15] (fun c i wr => ∃ k : Nat, k ≤ 5 ∧ i = .int .i64 k ∧ c = .int .i64 (preE zs ys node n k).length ∧ IsPost wr pb mw mc W [] ∧ Below w1.heap.size w1 wr) (fun _ i _ => 5 - (intOf i).toNat)
              case atStart => exact ⟨0, by omega, rfl, rfl, G4.out, G6.out⟩
              case round =>
                obtain ⟨k, hk, rfl, rfl, hp, hbr⟩ := hrel
                have G4 := Lib.hid hp
                have G6 := Lib.hid hbr
                by_cases hk5 : k < 5
                · clear hp hbr
                  obtain ⟨w6, rfl⟩ : ∃ w6 : World, w6 = wr := ⟨_, rfl⟩
                  have hlen : (preE zs ys node n k).length ≤ 200 := by
                    have h1 := (preE_prefix zs ys node n k (by omega) zs.length hlt).length_le
                    have h2 := D5.out
                    rw [HT.out] at h2
                    omega
                  go_wp2_with fail
                  go_loop [16, 82] (fun v i => ∃ j : Nat, j ≤ ys.length ∧ i = .int .i64 j ∧ v = .bool (odd x k && (ys.take j).all (okAck node n k))) (fun _ i => ys.length - (intOf i).toNat)
                  case atStart => exact ⟨0, by omega, rfl, by simp [odd]⟩
                  case round =>
                    obtain ⟨j, hj, rfl, rfl⟩ := hrel
                    by_cases hlj : j < ys.length
                    · have htk : (ys.take (j + 1)).all (okAck node n k) = ((ys.take j).all (okAck node n k) && okAck node n k (ys.getD j 0)) := by
                        rw [List.take_succ_eq_append_getElem hlj, List.all_append]
                        simp [List.getD_eq_getElem?_getD, List.getElem?_eq_getElem hlj]
                      obtain ⟨b2, off2, rfl, hbw2, hc2, hI2⟩ := B1.out j hlj
                      have k2 : w6.cell? ⟨b2, off2 + j, none⟩ = some (.int .i64 (ys.getD j 0)) := (G6.out.cell (p := ⟨b2, off2 + j, none⟩) hbw2).trans hc2
                      generalize ys.getD j 0 = y at *
                      generalize (ys.take j).all (okAck node n k) = al at *
                      have T1 := Lib.hid htk
                      clear htk hc2 hI2
                      generalize hcur : (odd x k && al) = cur
                      have T2 := Lib.hid hcur
                      clear hcur
                      cases cur with
                      | false =>
                        go_wp2
                        go_round
                        case rel => exact ⟨j + 1, by omega, by go_num, by rw [T1.out, ← Bool.and_assoc, T2.out]; rfl⟩
                        case measure => simp [intOf]; omega
                      | true =>
                        by_cases e1 : y = (n : Int) + 1
                        · have e1' : (y != (n : Int) + 1) = false := by simp [e1]
                          have E1 := Lib.hid e1
                          clear e1
                          by_cases e2 : (k : Int) = node
                          · have e2' : ((k : Int) != node) = false := by simp [e2]
                            have E2 := Lib.hid e2
                            have E3 := Lib.hid e2'
                            have E4 := Lib.hid e1'
                            clear e2
                            go_wp2
                            go_round
                            case rel => exact ⟨j + 1, by omega, by go_num, by rw [T1.out, ← Bool.and_assoc, T2.out]; unfold okAck; rw [E3.out, E4.out]; rfl⟩
                            case measure => simp [intOf]; omega
                          · have e2' : ((k : Int) != node) = true := by simp [e2]
                            have E3 := Lib.hid e2'
                            clear e2
                            go_wp2
                            go_round
                            case rel => exact ⟨j + 1, by omega, by go_num, by rw [T1.out, ← Bool.and_assoc, T2.out]; unfold okAck; rw [E3.out]; simp⟩
                            case measure => simp [intOf]; omega
                        · have e1' : (y != (n : Int) + 1) = true := by simp [e1]
                          have E3 := Lib.hid e1'
                          clear e1
                          go_wp2
                          go_round
                          case rel => exact ⟨j + 1, by omega, by go_num, by rw [T1.out, ← Bool.and_assoc, T2.out]; unfold okAck; rw [E3.out]; simp⟩
                          case measure => simp [intOf]; omega
                    · obtain rfl : j = ys.length := by omega
                      rw [List.take_length]
                      have hw : (odd x k && ys.all (okAck node n k)) = waitsB zs ys node n k := by unfold waitsB; rw [HX.out]
                      rw [hw]
                      generalize hcur : waitsB zs ys node n k = cur
                      have T2 := Lib.hid hcur
                      clear hcur hw
                      cases cur with
                      | false =>
                        go_wp2
                        go_roundw
                        case rel => exact ⟨k + 1, by omega, by go_num, by rw [preE_no T2.out], G4.out, G6.out⟩
                        case measure => simp [intOf]; omega
                      | true =>
                        obtain ⟨l1, l2⟩ := D2.out n k hlt hk5 T2.out
                        have L2 := Lib.hid l2
                        clear l2
                        go_wp2_with fail
                        refine (D1.out w6 G4.out).mono ?_
                        rintro e w7 ⟨p, cap, rfl, hrow, hb⟩
                        obtain ⟨g, cap0, hv⟩ : ∃ g cap0, (Value.slice p T.length cap) = .slice (some ⟨g, 0, none⟩) T.length cap0 := by
                          rcases hrow.2 with ⟨_, h0⟩ | ⟨g, cap0, cur, h, _⟩
                          · omega
                          · exact ⟨g, cap0, h⟩
                        cases hv
                        have hc := fun (j : Nat) (hj : j < 3) => owned_cell (α := Int × Int) (enc := fun k => [.int .i64 k.2, .int .i64 k.1, .int .i64 0]) (k := 3) (l := T) (fun _ => rfl) hrow l1 hj
                        rw [L2.out] at hc
                        have c0 : w7.cell? ⟨g, (preE zs ys node n k).length * 3, none⟩ = some (.int .i64 ((n : Int) + 1)) := hc 0 (by omega)
                        have c1 : w7.cell? ⟨g, (preE zs ys node n k).length * 3 + 1, none⟩ = some (.int .i64 k) := hc 1 (by omega)
                        have c2 : w7.cell? ⟨g, (preE zs ys node n k).length * 3 + 2, none⟩ = some (.int .i64 0) := hc 2 (by omega)
                        have G8 := Lib.hid hb
                        have T3 := Lib.hid (preE_yes T2.out)
                        clear hc hrow hb
                        generalize hq : (preE zs ys node n k).length = q at *
                        have HQ := Lib.hid hq
                        clear hq
                        go_wp2
                        go_roundw
                        case rel => exact ⟨k + 1, by omega, by go_num, by rw [T3.out, List.length_append, HQ.out]; go_num, G4.out.below G8.out, G6.out.trans (G8.out.mono G6.out.size)⟩
                        case measure => simp [intOf]; omega
                · obtain rfl : k = 5 := by omega
                  go_wp2
                  go_roundw
                  case rel => exact ⟨n + 1, by omega, by go_num, by rw [preE_next], hp, hbr⟩
                  case measure => simp [intOf]; omega
            · obtain rfl : n = zs.length := by omega
              have e1 : (preE zs ys node zs.length 0).length = T.length := by rw [HT.out]
              rw [e1]
              clear hp hbr
              go_wp2_with fail
              refine (D1.out wr G4.out).mono ?_
              rintro e w6 ⟨p, cap, rfl, hrow, hb⟩
              have G8 := Lib.hid hb
              clear hrow hb
              go_wp2
              go_ret
              exact ⟨rfl, (G1.out.trans (G6.out.mono G1.out.size)).trans (G8.out.mono (by have := G1.out.size; have := G6.out.size; omega))⟩
#print axioms waits_any
end Go.Proofs.Ytamnffcafbfojaa
