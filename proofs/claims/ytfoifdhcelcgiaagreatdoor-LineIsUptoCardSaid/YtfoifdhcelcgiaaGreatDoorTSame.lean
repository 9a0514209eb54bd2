/-
  Two rows of texts that are alike are the same, by the document.
-/
import Derived.Test.YtfoifdhcelcgiaaGreatDoorStr
import Derived.Test.YtfoifdhcelcgiaaGreatDoorJj
namespace Go.Proofs.YtfoifdhcelcgiaaGreatDoor
open Go Go.RowKit

theorem scs_at {w : World} {p : Option Addr} {K : List Tx} (h : Src w p (scs K)) {n : Nat} (hn : n < K.length) : ∃ x g off, K[n]? = some x ∧ p = some ⟨g, off, none⟩ ∧ g < w.heap.size ∧ w.cell? ⟨g, off + n, none⟩ = some (txt x) := by
  have hx : K[n]? = some K[n] := List.getElem?_eq_getElem hn
  obtain ⟨g, off, e, hc⟩ := h.at_ n (txt K[n]) (by unfold scs; rw [List.getElem?_map, hx]; rfl)
  exact ⟨K[n], g, off, hx, e, World.block_lt_of_cell? w _ hc, hc⟩
set_option maxRecDepth 100000 in
set_option maxHeartbeats 4000000 in
theorem tsame_any (K : List Tx) (p q : Option Addr) (c d : Nat) (w : World) (hp : Src w p (scs K)) (hq : Src w q (scs K)) (hl : K.length ≤ 1000000000) :
    Calls Tryz.prog 20 #[.slice p K.length c, .slice q K.length d] w fun e w' => e = .returned (.bool true) ∧ Below w.heap.size w w' := by
  have HP := Lib.hid hp
  have HQ := Lib.hid hq
  clear hp hq
  go_enter Tryz.func20, Tryz.ntmps20
  go_upto_region 4 with fail
  go_loopw [13] (fun i wr => ∃ n : Nat, n ≤ K.length ∧ i = .int .i64 n ∧ Hid (Below w.heap.size w wr)) (fun i _ => K.length - (intOf i).toNat)
  case atStart => exact ⟨0, by omega, rfl, Lib.hid (Below.refl _ _)⟩
  case round =>
    obtain ⟨n, hn1, rfl, HB⟩ := hrel
    have hzr := HB.out.size
    by_cases hlt : n < K.length
    · obtain ⟨x, gx, ox, hx1, hx2, hx3, hx4⟩ := scs_at (HP.out.below HB.out (Nat.le_refl _)) hlt
      obtain ⟨y, gy, oy, hy1, hy2, hy3, hy4⟩ := scs_at (HQ.out.below HB.out (Nat.le_refl _)) hlt
      obtain rfl := Option.some.inj (hx1.symm.trans hy1)
      subst hx2 hy2
      have HCX := Lib.hid hx4
      have HCY := Lib.hid hy4
      have hltI : (n : Int) < (K.length : Int) := by omega
      clear hx1 hy1 hx4 hy4
      go_upto_region 6 with fail
      obtain ⟨NV, hNVa, hNVb⟩ : ∃ n, wr.heap.size ≤ n ∧ n ≤ wr.heap.size := ⟨_, Nat.le_refl _, Nat.le_refl _⟩
      refine wp_region_noPanic ?_
      refine wp_region_till 8 (fun w' => Below NV wr w') (by kernel_rfl) (by kernel_rfl) ?_
      obtain ⟨wV, hwV⟩ : ∃ wV, wV = wr.drew := ⟨_, rfl⟩
      have hSwV : Below NV wr wV := by rw [hwV]; exact (Below.refl NV wr).drew
      rw [← hwV]
      have HSV := Lib.hid hSwV
      have hzwV : wr.heap.size ≤ wV.heap.size := by rw [hwV]; exact Nat.le_refl _
      clear hwV hSwV
      go_simp
      refine Till.pure 0 rfl rfl (by kernel_rfl) (NoPanic.noFrame _) HSV.out ?_
      go_big_quiet_step (fail)
      refine wpQuiet_nil ?_
      refine Till.pure 1 rfl rfl (by kernel_rfl) (NoPanic.noFrame _) HSV.out ?_
      go_big_quiet_step (fail)
      refine wpQuiet_nil ?_
      refine Till.pure 2 rfl rfl (by kernel_rfl) (NoPanic.noFrame _) HSV.out ?_
      go_big_quiet_step (fail)
      refine wpQuiet_nil ?_
      refine Till.load 3 9 _ ⟨gx, ox + n, none⟩ (txt x) rfl rfl rfl rfl (by kernel_rfl) (NoPanic.noFrame _) HSV.out (fun w' hw' => run_loadVar_one Tryz.underlying9 rfl ((World.cell?_of_block (a := ⟨gx, ox + n, none⟩) (hw'.block gx (by omega))).trans HCX.out)) ?_
      go_simp
      refine Till.pure 4 rfl rfl (by kernel_rfl) (NoPanic.noFrame _) HSV.out ?_
      go_big_quiet_step (fail)
      refine wpQuiet_nil ?_
      refine Till.pure 5 rfl rfl (by kernel_rfl) (NoPanic.noFrame _) HSV.out ?_
      go_big_quiet_step (fail)
      refine wpQuiet_nil ?_
      refine Till.pure 6 rfl rfl (by kernel_rfl) (NoPanic.noFrame _) HSV.out ?_
      go_big_quiet_step (fail)
      refine wpQuiet_nil ?_
      refine Till.load 7 9 _ ⟨gy, oy + n, none⟩ (txt x) rfl rfl rfl rfl (by kernel_rfl) (NoPanic.noFrame _) HSV.out (fun w' hw' => run_loadVar_one Tryz.underlying9 rfl ((World.cell?_of_block (a := ⟨gy, oy + n, none⟩) (hw'.block gy (by omega))).trans HCY.out)) ?_
      go_simp
      refine Till.tail _ rfl rfl (by kernel_rfl) (by kernel_rfl) ?_
      have HFIN := Lib.hid (HB.out.trans ((HSV.out.mono hNVa).mono hzr))
      go_wp2
      refine NoPanic.normal ?_
      go_wp2
      go_roundw
      case rel => exact ⟨n + 1, by omega, by go_num, HFIN⟩
      case measure => simp [intOf] <;> omega
    · obtain rfl : n = K.length := by omega
      go_wp2
      go_ret
      exact ⟨rfl, HB.out⟩
end Go.Proofs.YtfoifdhcelcgiaaGreatDoor
