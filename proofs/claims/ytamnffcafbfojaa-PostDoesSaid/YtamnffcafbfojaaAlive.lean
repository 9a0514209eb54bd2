/-
  POST: what the laws ask first.
-/
import Derived.Test.YtamnffcafbfojaaTick
namespace Go.Proofs.Ytamnffcafbfojaa
open Go Go.RowKit

theorem sent36 : sentN [] 3 6 5 = [⟨3, 2, 0⟩, ⟨3, 1, 0⟩] := by
  have b0 : bit 6 0 = false := by decide +kernel
  have b1 : bit 6 1 = true := by decide +kernel
  have b2 : bit 6 2 = true := by decide +kernel
  have b3 : bit 6 3 = false := by decide +kernel
  have b4 : bit 6 4 = false := by decide +kernel
  simp [sentN, b0, b1, b2, b3, b4, sent1, Dv.key]

theorem Below.of_grown {B : Nat} {w w' : World} {r : Nat} (hg : w.grownBy w' (some r)) (hB : B ≤ r) (hw : B ≤ w.heap.size) : Below B w w' :=
  (Below.refl B w).grown hg hw (fun k e => by cases e; exact hB)

theorem ksort_one (k : Int × Int) : ksort [k] = [k] := by simp [ksort]

set_option maxRecDepth 100000 in
set_option maxHeartbeats 400000 in
theorem alive_any (w : World) : Calls Try.prog 8 #[] w fun e w' => e = .returned (.bool true) ∧ Below w.heap.size w w' := by
  go_enter Try.func8, Try.ntmps8
  go_wp2_with fail
  refine (new_any _).mono ?_
  rintro e w1 ⟨pb, mw, mc, rfl, hp1, hb1, q1, q2, q3⟩
  have G0 := Lib.hid hp1
  have G1 := Lib.hid hb1
  clear hp1 hb1
  go_wp2_with fail
  refine (sent_any pb mw mc [] [] 3 6 w1 G0.out (by unfold I64; omega)).mono ?_
  rintro e w2 ⟨rfl, hp2, hg2, hs2⟩
  rw [sent36] at hp2
  have G2 := Lib.hid hp2
  have G3 := Lib.hid hg2
  have G4 := Lib.hid hs2
  clear hp2 hg2 hs2
  go_wp2_with fail
  refine (acked_any pb mw mc _ [] (1, 3) w2 G2.out (by unfold I64; omega) (by unfold I64; omega)).mono ?_
  rintro e w3 ⟨rfl, hp3, hg3, hs3⟩
  have e1 : acked [⟨3, 2, 0⟩, ⟨3, 1, 0⟩] (1, 3) = [⟨3, 2, 0⟩] := by simp [acked, Dv.key]
  have e2 : hasW [⟨3, 2, 0⟩, ⟨3, 1, 0⟩] (1, 3) = true := by simp [hasW, Dv.key]
  rw [e1] at hp3
  rw [e2]
  have G5 := Lib.hid hp3
  have G6 := Lib.hid hg3
  have G7 := Lib.hid hs3
  clear hp3 hg3 hs3 e1 e2
  go_wp2_with fail
  refine (dues_any pb mw mc [⟨3, 2, 0⟩] [] w3 G5.out (by intro d hd; simp at hd; subst hd; unfold I64; simp) (by simp)).mono ?_
  rintro e w4 ⟨v, xs, rfl, hS, hrow, hb4⟩
  have hx : xs = [(2, 3)] := by simpa [Dv.key] using hS
  subst hx
  rw [ksort_one] at hrow
  have hg : getW [⟨3, 2, 0⟩] (2, 3) = 0 := by simp [getW, Dv.key]
  simp only [List.flatMap_cons, List.flatMap_nil, List.append_nil, dcell, hg, List.length_cons, List.length_nil, Nat.zero_add] at hrow
  obtain ⟨g, cap, rfl⟩ := ownsRow_succ (k := 0) hrow
  have hc := fun (j : Nat) (hj : j < 3) => owned_cell (α := Unit) (enc := fun _ => [.int .i64 3, .int .i64 2, .int .i64 0]) (k := 3) (l := [()]) (fun _ => rfl) hrow (i := 0) (j := j) (by simp) hj
  have c0 : w4.cell? ⟨g, 0, none⟩ = some (.int .i64 3) := hc 0 (by omega)
  have c1 : w4.cell? ⟨g, 1, none⟩ = some (.int .i64 2) := hc 1 (by omega)
  have c2 : w4.cell? ⟨g, 2, none⟩ = some (.int .i64 0) := hc 2 (by omega)
  have G8 := Lib.hid hb4
  clear hc hrow hg hS hb4
  go_wp2
  go_ret
  refine ⟨rfl, ?_⟩
  have z1 := G1.out.size
  have z3 := G4.out
  have z4 := G7.out
  exact (((G1.out.trans (Below.of_grown G3.out q2 z1)).trans (Below.of_grown G6.out q2 (by omega))).trans (G8.out.mono (by omega)))
end Go.Proofs.Ytamnffcafbfojaa
