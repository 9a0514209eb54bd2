/-
  POST: PostFirst, walked.
-/
import Derived.Test.YtamnffcafbfojaaAlive
namespace Go.Proofs.Ytamnffcafbfojaa
open Go Go.RowKit

/-- the walk is over a slice of ints that came in -/
def IntsAt (w : World) (p : Option Addr) (zs : List Int) : Prop :=
  ∀ i, i < zs.length → ∃ b off, p = some ⟨b, off, none⟩ ∧ b < w.heap.size ∧ w.cell? ⟨b, off + i, none⟩ = some (.int .i64 (zs.getD i 0)) ∧ I64 (zs.getD i 0)

theorem getC_comes (C : List ((Int × Int) × Int)) (k q : Int × Int) (x : Int) (hC : ∀ c ∈ C, 1 ≤ c.2) : getC (comes C k x) q = if k = q ∧ getC C q = 0 then x else getC C q := by
  have h0 : hasC C k = true ↔ getC C k ≠ 0 := by
    unfold hasC getC
    constructor
    · intro h
      obtain ⟨c, hc, hk⟩ := List.any_eq_true.1 h
      cases hf : C.find? (fun c => decide (c.1 = k)) with
      | none => exact absurd hk (by have := List.find?_eq_none.1 hf c hc; simpa using this)
      | some d => have := hC d (List.mem_of_find?_eq_some hf); simp; omega
    · intro h
      cases hf : C.find? (fun c => decide (c.1 = k)) with
      | none => rw [hf] at h; simp at h
      | some d => exact List.any_eq_true.2 ⟨d, List.mem_of_find?_eq_some hf, by have := List.find?_some hf; simpa using this⟩
  unfold comes
  by_cases hk : hasC C k = true
  · rw [if_pos hk]
    by_cases e : k = q
    · subst e
      rw [if_neg (fun h => (h0.1 hk) h.2)]
    · rw [if_neg (fun h => e h.1)]
  · rw [if_neg hk]
    by_cases e : k = q
    · subst e
      have : getC C k = 0 := by
        by_cases h1 : getC C k = 0
        · exact h1
        · exact absurd (h0.2 h1) hk
      rw [if_pos ⟨rfl, this⟩]
      simp [getC]
    · rw [if_neg (fun h => e h.1)]
      simp [getC, e]

theorem comes_pos (C : List ((Int × Int) × Int)) (k : Int × Int) (x : Int) (hx : 1 ≤ x) (hC : ∀ c ∈ C, 1 ≤ c.2) : ∀ c ∈ comes C k x, 1 ≤ c.2 := by
  intro c hc
  unfold comes at hc
  split at hc
  · exact hC c hc
  · rcases List.mem_cons.1 hc with rfl | hc
    · exact hx
    · exact hC c hc

set_option maxRecDepth 100000 in
set_option maxHeartbeats 800000 in
theorem first_any (p : Option Addr) (cap : Nat) (zs : List Int) (node seq : Int) (w : World) (hA : IntsAt w p zs) (hn : I64 node) (hq : I64 seq) (hz : zs.length ≤ 9223372036854775807) :
    Calls Try.prog 5 #[.slice p zs.length cap, .int .i64 node, .int .i64 seq] w fun e w' => e = .returned (.bool true) ∧ Below w.heap.size w w' := by
  have HA := Lib.hid hA
  have HN := Lib.hid hn
  have HQ := Lib.hid hq
  have HZ := Lib.hid hz
  clear hA hn hq hz
  by_cases h60 : 60 < zs.length
  · go_enter Try.func5, Try.ntmps5
    go_wp2_with fail
    refine (alive_any _).mono ?_
    rintro e w1 ⟨rfl, hb1⟩
    go_wp2_with fail
    go_ret
    exact ⟨rfl, hb1⟩
  · go_enter Try.func5, Try.ntmps5
    go_wp2_with fail
    refine (alive_any _).mono ?_
    rintro e w1 ⟨rfl, hb1⟩
    have G1 := Lib.hid hb1
    clear hb1
    go_wp2_with fail
    refine (new_any _).mono ?_
    rintro e w2 ⟨pb, mw, mc, rfl, hp2, hb2, q1, q2, q3⟩
    have G2 := Lib.hid hp2
    have G3 := Lib.hid hb2
    clear hp2 hb2
    go_wp2_with fail
    go_loopw [8, 21] (fun v i wr => ∃ (n : Nat) (C : List ((Int × Int) × Int)), n ≤ zs.length ∧ i = .int .i64 n ∧ v = .int .i64 (getC C (node, seq)) ∧ IsPost wr pb mw mc [] C ∧ (∀ c ∈ C, 1 ≤ c.2) ∧ Below w1.heap.size w1 wr) (fun _ i _ => zs.length - (intOf i).toNat)
    case atStart => exact ⟨0, [], by omega, rfl, rfl, G2.out, by simp, G3.out⟩
    case round =>
      obtain ⟨n, C, hn, rfl, rfl, hp, hC, hbr⟩ := hrel
      by_cases hlt : n < zs.length
      · obtain ⟨b, off, rfl, hbw, hc, hI⟩ := HA.out n hlt
        have k0 : wr.cell? ⟨b, off + n, none⟩ = some (.int .i64 (zs.getD n 0)) := ((G1.out.trans (hbr.mono G1.out.size)).cell (p := ⟨b, off + n, none⟩) hbw).trans hc
        generalize zs.getD n 0 = x at *
        have G4 := Lib.hid hp
        have G5 := Lib.hid hC
        have G6 := Lib.hid hbr
        have G7 := Lib.hid hI
        clear hp hC hbr hc hI
        go_wp2_with fail
        have hkn : I64 (x.tmod 5) := by
          have := G7.out
          unfold I64 at *
          have h1 := Int.tmod_add_mul_tdiv x 5
          rcases Int.le_total 0 x with h | h
          · have := Int.tmod_nonneg 5 h; have := Int.tmod_lt_of_pos x (show (0 : Int) < 5 by omega); omega
          · have := Int.lt_tmod_of_pos x (show (0 : Int) < 5 by omega); have := Int.tmod_lt_of_pos x (show (0 : Int) < 5 by omega); omega
        have hkk : I64 (wrap64 (1 + (wrap64 (x.tdiv 5)).tmod 4)) := by unfold I64 wrap64; omega
        generalize x.tmod 5 = kn at *
        generalize wrap64 (1 + (wrap64 (x.tdiv 5)).tmod 4) = kk at *
        have H1 := Lib.hid hkn
        have H2 := Lib.hid hkk
        clear hkn hkk
        refine (came_any pb mw mc [] C (kn, kk) ((n : Int) + 1) wr G4.out H1.out H2.out).mono ?_
        rintro e w3 ⟨rfl, hp3, hg3, hs3⟩
        have G8 := Lib.hid hp3
        have G9 := Lib.hid hg3
        have hB3 : Below w1.heap.size w1 w3 := G6.out.trans (Below.of_grown hg3 q3 G6.out.size)
        have G10 := Lib.hid hB3
        clear hp3 hg3 hs3 hB3
        have hgc := getC_comes C (kn, kk) (node, seq) ((n : Int) + 1) G5.out
        have hpos := comes_pos C (kn, kk) ((n : Int) + 1) (by omega) G5.out
        have G11 := Lib.hid hgc
        have G12 := Lib.hid hpos
        clear hgc hpos
        by_cases t1 : kn = node
        · have t1' : (kn == node) = true := by simpa using t1
          have T1 := Lib.hid t1
          clear t1
          by_cases t2 : kk = seq
          · have t2' : (kk == seq) = true := by simpa using t2
            have T2 := Lib.hid t2
            clear t2
            by_cases t3 : getC C (node, seq) = 0
            · have t3' : (getC C (node, seq) == 0) = true := by simpa using t3
              have T3 := Lib.hid t3
              clear t3
              go_wp2
              go_roundw
              case rel => exact ⟨n + 1, _, by omega, by go_num, by rw [G11.out, if_pos ⟨by rw [T1.out, T2.out], T3.out⟩], G8.out, G12.out, G10.out⟩
              case measure => simp [intOf]; omega
            · have t3' : (getC C (node, seq) == 0) = false := by simpa using t3
              have T3 := Lib.hid t3
              clear t3
              go_wp2
              go_roundw
              case rel => exact ⟨n + 1, _, by omega, by go_num, by rw [G11.out, if_neg (fun h => T3.out h.2)], G8.out, G12.out, G10.out⟩
              case measure => simp [intOf]; omega
          · have t2' : (kk == seq) = false := by simpa using t2
            have T2 := Lib.hid t2
            clear t2
            go_wp2
            go_roundw
            case rel => exact ⟨n + 1, _, by omega, by go_num, by rw [G11.out, if_neg (fun h => T2.out (Prod.mk.inj h.1).2)], G8.out, G12.out, G10.out⟩
            case measure => simp [intOf]; omega
        · have t1' : (kn == node) = false := by simpa using t1
          have T1 := Lib.hid t1
          clear t1
          go_wp2
          go_roundw
          case rel => exact ⟨n + 1, _, by omega, by go_num, by rw [G11.out, if_neg (fun h => T1.out (Prod.mk.inj h.1).1)], G8.out, G12.out, G10.out⟩
          case measure => simp [intOf]; omega
      · obtain rfl : n = zs.length := by omega
        have G4 := Lib.hid hp
        have G6 := Lib.hid hbr
        clear hp hC hbr
        go_wp2_with fail
        refine (where_any pb mw mc [] C (node, seq) wr G4.out HN.out HQ.out).mono ?_
        rintro e w3 ⟨rfl, rfl⟩
        generalize getC C (node, seq) = g
        go_wp2_with fail
        refine (dues_any pb mw mc [] C _ G4.out (by simp) (by simp)).mono ?_
        rintro e w4 ⟨v, xs, rfl, hS, hrow, hb4⟩
        have hx : xs = [] := by simpa using hS
        subst hx
        obtain ⟨p', cap', rfl⟩ := owns_slice hrow
        have hk : (ksort []).length = 0 := by simp [ksort]
        rw [hk]
        have G8 := Lib.hid hb4
        clear hb4 hrow hS hk
        go_wp2
        go_ret
        exact ⟨rfl, (G1.out.trans (G6.out.mono G1.out.size)).trans (G8.out.mono (by have := G1.out.size; have := G6.out.size; omega))⟩
end Go.Proofs.Ytamnffcafbfojaa
