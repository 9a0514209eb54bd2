/-
  Which operations can be; copies.
-/
import Derived.Test.YtfoifdhcelcgiaaGreatDoorGood
import Derived.Test.YtfoifdhcelcgiaaGreatDoorJc
import Derived.Laws.Cover3
import Derived.Test.YtfoifdhcelcgiaaGreatDoorJb
import Derived.Deep.OwnRows
import Derived.Deep.CutRange
/- Good by both: is an operation well formed? -/
namespace Go.Proofs.YtfoifdhcelcgiaaGreatDoor
open Go Go.RowKit

def sortedI (l : List (List UInt8)) : Prop := ∀ j x y, l[j]? = some x → l[j + 1]? = some y → cmpB x y < 0
instance (l : List (List UInt8)) : Decidable (sortedI l) :=
  decidable_of_iff (∀ j ∈ List.range l.length, ∀ x, l[j]? = some x → ∀ y, l[j + 1]? = some y → cmpB x y < 0) <| by
    constructor
    · intro h j x y hx hy
      exact h j (List.mem_range.2 (List.getElem?_eq_some_iff.1 hx).1) x hx y hy
    · intro h j _ x hx y hy
      exact h j x y hx hy

structure OpV.Good (o : OpV) : Prop where
  d : goodD o.d = true
  a0 : 0 ≤ o.author
  a1 : o.author < 5
  d1 : 1 ≤ o.depth
  len : o.preds.length ≤ 32
  first : o.preds.length = 0 ↔ o.depth = 1
  sorted : sortedI o.preds

instance (o : OpV) : Decidable o.Good :=
  decidable_of_iff (goodD o.d = true ∧ 0 ≤ o.author ∧ o.author < 5 ∧ 1 ≤ o.depth ∧ o.preds.length ≤ 32 ∧ (o.preds.length = 0 ↔ o.depth = 1) ∧ sortedI o.preds)
    ⟨fun ⟨a, b, c, d, e, f, g⟩ => ⟨a, b, c, d, e, f, g⟩, fun ⟨a, b, c, d, e, f, g⟩ => ⟨a, b, c, d, e, f, g⟩⟩

theorem cmpB_three : ∀ (x y : List UInt8), cmpB x y = -1 ∨ cmpB x y = 0 ∨ cmpB x y = 1
  | [], [] => by simp [Lib.compareBytes]
  | [], _ :: _ => by simp [Lib.compareBytes]
  | _ :: _, [] => by simp [Lib.compareBytes]
  | a :: x, b :: y => by
    have := cmpB_three x y
    simp only [cmpB, Lib.compareBytes] at this ⊢
    split
    · simp
    · split
      · simp
      · exact this

set_option maxRecDepth 100000 in
set_option maxHeartbeats 8000000 in
theorem opgood_any (o : OpV) (ho : o.Ok) (p : Option Addr) (c : Nat) (w : World) (hs : Src w p (pcs o.preds)) :
    Calls Tryz.prog 57 #[.agg (o.cs p c).toArray] w fun e w' => e = .returned (.bool (decide o.Good)) ∧ Below w.heap.size w w' := by
  obtain ⟨hz, hid⟩ := info_two idInfo
  have HI := Lib.hid hid
  clear hz hid
  have HD := Lib.hid ho
  have HS := Lib.hid hs
  have hat : cellsAt (w.alloc (.cells (o.cs p c).toArray 46)) w.heap.size 0 (o.cs p c) := by simpa using cellsAt_new w (o.cs p c).toArray 46
  obtain ⟨w1, hw1⟩ : ∃ w1, w1 = w.alloc (.cells (o.cs p c).toArray 46) := ⟨_, rfl⟩
  rw [← hw1] at hat
  have hb1 : Below w.heap.size w w1 := by rw [hw1]; exact (Below.refl _ w).alloc (Nat.le_refl _) _
  have hlt : w.heap.size < w1.heap.size := by rw [hw1]; simp
  have HA := Lib.hid hat
  have HB1 := Lib.hid hb1
  have hn := ho.len
  clear hat ho hs hb1
  go_enter Tryz.func57, Tryz.ntmps57
  go_upto_region 1 with (first | (refine wpList_boxAgg _ rfl 46 _ rfl (o.cs p c).toArray (by rfl) ?_))
  rw [← hw1]
  clear hw1
  go_wp2_with (first
    | (refine wpList_loadAgg _ rfl 44 _ rfl _ Tryz.underlying44 rfl w.heap.size 0 (by rfl) o.d.cs (by rw [draftInfo, Dr.cs_length HD.out.d]) (OpV.cs_d HA.out) ?_))
  refine (goodD_any o.d HD.out.d w1).mono ?_
  rintro e w2 ⟨rfl, hb2⟩
  have hz2 := hb2.size
  have ha2 : cellsAt w2 w.heap.size 0 (o.cs p c) := HA.out.of_block (hb2.block _ hlt)
  have HA2 := Lib.hid ha2
  have HB2 := Lib.hid (HB1.out.trans (hb2.mono (by omega)))
  have HS2 := Lib.hid (HS.out.below HB2.out (Nat.le_refl _))
  obtain ⟨k1, k2, k3⟩ := OpV.cs_at HD.out ha2
  obtain ⟨g, hg⟩ : ∃ g, g = goodD o.d := ⟨_, rfl⟩
  rw [← hg]
  have HG := Lib.hid hg
  clear hg hb2 ha2
  go_upto_region 3 with fail
  all_goals first
    | (go_ret; refine ⟨?_, HB2.out⟩; refine congrArg (fun b => Ending.returned (Value.bool b)) (?_ : _ = decide o.Good); symm; rw [decide_eq_false_iff_not]; rintro ⟨q1, q2, q3, q4, q5, q6, _⟩; have := HG.out; grind)
    | skip
  have hpre : goodD o.d = true ∧ 0 ≤ o.author ∧ o.author < 5 ∧ 1 ≤ o.depth ∧ o.preds.length ≤ 32 ∧ (o.preds.length = 0 ↔ o.depth = 1) := by
    have := HG.out
    clear HD HS HA HB1 HA2 HB2 HS2 k1 k2 k3
    refine ⟨?_, ?_, ?_, ?_, ?_, ?_⟩ <;> grind
  have HP := Lib.hid hpre
  have d5 : (!((o.preds.length : Int) == 0) == (o.depth == 1)) = false := by
    obtain ⟨_, _, _, _, _, q6⟩ := hpre
    grind
  clear hpre
  simp only [d5, Bool.or_false]
  clear k1 k2 k3
  go_wp2_with fail
  go_loopw [3] (fun i wr => ∃ n : Nat, 1 ≤ n ∧ (n ≤ o.preds.length ∨ n = 1) ∧ i = .int .i64 n ∧ Hid (∀ j x y, j + 1 < n → o.preds[j]? = some x → o.preds[j + 1]? = some y → cmpB x y < 0) ∧ Hid (Below w2.heap.size w2 wr)) (fun i _ => o.preds.length + 1 - (intOf i).toNat)
  case atStart => exact ⟨1, by omega, .inr rfl, rfl, Lib.hid (fun j x y h => absurd h (by omega)), Lib.hid (Below.refl _ _)⟩
  case round =>
    obtain ⟨n, hn1, hn2, rfl, hso, hbr⟩ := hrel
    have hszr := hbr.out.size
    have har : cellsAt wr w.heap.size 0 (o.cs p c) := HA2.out.of_block (hbr.out.block _ (by omega))
    have hcr := (OpV.cs_at HD.out har).2.2
    have HAR := Lib.hid har
    clear har
    by_cases hlt2 : n < o.preds.length
    · obtain ⟨m, rfl⟩ : ∃ m, n = m + 1 := ⟨n - 1, by omega⟩
      obtain ⟨x, g0, off, hx1, _, hx3, hp0, hx4⟩ := pred_at (HS2.out.below hbr.out (Nat.le_refl _)).at_ HD.out.ids (show m < o.preds.length by omega)
      obtain ⟨y, g1, off1, hy1, _, hy3, hp1, hy4⟩ := pred_at (HS2.out.below hbr.out (Nat.le_refl _)).at_ HD.out.ids hlt2
      subst hp0
      have := Option.some.inj hp1
      simp only [Addr.mk.injEq] at this
      obtain ⟨rfl, rfl, _⟩ := this
      clear hp1
      have hgl : g0 < wr.heap.size := bcs_at_lt hx4 hx3
      have HX1 := Lib.hid hx1
      have HY1 := Lib.hid hy1
      have HX3 := Lib.hid hx3
      have HY3 := Lib.hid hy3
      have HX4 := Lib.hid hx4
      have HY4 := Lib.hid hy4
      clear hx1 hy1 hx3 hy3 hx4 hy4
      go_upto_region 6 with fail
      refine wp_region_noPanic ?_
      refine wp_region_till 11 (fun w' => cellsAt w' w.heap.size 0 (o.cs (some ⟨g0, off, none⟩) c) ∧ cellsAt w' g0 (off + m * 32) (bcs x) ∧ cellsAt w' g0 (off + (m + 1) * 32) (bcs y)) (by kernel_rfl) (by kernel_rfl) ?_
      obtain ⟨wA, hwA⟩ : ∃ wA, wA = wr.drew := ⟨_, rfl⟩
      have HSA := Lib.hid (show cellsAt wA w.heap.size 0 (o.cs (some ⟨g0, off, none⟩) c) ∧ cellsAt wA g0 (off + m * 32) (bcs x) ∧ cellsAt wA g0 (off + (m + 1) * 32) (bcs y) by rw [hwA]; exact ⟨HAR.out, HX4.out, HY4.out⟩)
      have HBA := Lib.hid (show Below w2.heap.size w2 wA by rw [hwA]; exact hbr.out.drew)
      rw [← hwA]
      clear hwA
      refine Till.pure 0 rfl rfl (by kernel_rfl) (NoPanic.noFrame _) HSA.out ?_
      go_big_quiet_step (fail)
      refine wpQuiet_nil ?_
      refine Till.load 1 28 _ ⟨w.heap.size, 37, none⟩ (.slice (some ⟨g0, off, none⟩) o.preds.length c) rfl rfl rfl rfl (by kernel_rfl) (NoPanic.noFrame _) HSA.out (fun w' hw' => run_loadVar_one Tryz.underlying28 rfl (OpV.cs_at HD.out hw'.1).2.2) ?_
      go_simp
      refine Till.pure 2 rfl rfl (by kernel_rfl) (NoPanic.noFrame _) HSA.out ?_
      go_big_quiet_step (fail)
      refine wpQuiet_nil ?_
      refine Till.pure 3 rfl rfl (by kernel_rfl) (NoPanic.noFrame _) HSA.out ?_
      go_big_quiet_step (fail)
      refine wpQuiet_nil ?_
      refine Till.pure 4 rfl rfl (by kernel_rfl) (NoPanic.noFrame _) HSA.out ?_
      go_big_quiet_step (fail)
      refine wpQuiet_nil ?_
      refine Till.load 5 31 _ ⟨g0, off + m * 32, none⟩ (idv x) rfl rfl rfl rfl (by kernel_rfl) (NoPanic.noFrame _) HSA.out (fun w' hw' => run_loadAgg Tryz.underlying31 rfl (by rw [HI.out, bcs_length, HX3.out]) hw'.2.1) ?_
      go_simp
      refine Till.pure 6 rfl rfl (by kernel_rfl) (NoPanic.noFrame _) HSA.out ?_
      go_big_quiet_step (fail)
      refine wpQuiet_nil ?_
      refine Till.load 7 28 _ ⟨w.heap.size, 37, none⟩ (.slice (some ⟨g0, off, none⟩) o.preds.length c) rfl rfl rfl rfl (by kernel_rfl) (NoPanic.noFrame _) HSA.out (fun w' hw' => run_loadVar_one Tryz.underlying28 rfl (OpV.cs_at HD.out hw'.1).2.2) ?_
      go_simp
      refine Till.pure 8 rfl rfl (by kernel_rfl) (NoPanic.noFrame _) HSA.out ?_
      go_big_quiet_step (fail)
      refine wpQuiet_nil ?_
      refine Till.pure 9 rfl rfl (by kernel_rfl) (NoPanic.noFrame _) HSA.out ?_
      go_big_quiet_step (fail)
      refine wpQuiet_nil ?_
      refine Till.load 10 31 _ ⟨g0, off + (m + 1) * 32, none⟩ (idv y) rfl rfl rfl rfl (by kernel_rfl) (NoPanic.noFrame _) HSA.out (fun w' hw' => run_loadAgg Tryz.underlying31 rfl (by rw [HI.out, bcs_length, HY3.out]) hw'.2.2) ?_
      go_simp
      refine Till.tail _ rfl rfl (by kernel_rfl) (by kernel_rfl) ?_
      go_wp2_with fail
      refine (opcmp_any x y HX3.out HY3.out wA).mono ?_
      rintro e w3 ⟨rfl, hb3⟩
      have HB3 := Lib.hid (HBA.out.trans (hb3.mono HBA.out.size))
      clear hb3
      by_cases hc : cmpB x y < 0
      · have d1 : decide (0 ≤ cmpB x y) = false := by simpa using hc
        have HCC := Lib.hid hc
        clear hc
        generalize cmpB x y = cv at d1
        go_wp2
        refine NoPanic.normal ?_
        go_wp2
        go_roundw
        case rel =>
          have hnew : ∀ j a b, j + 1 < m + 2 → o.preds[j]? = some a → o.preds[j + 1]? = some b → cmpB a b < 0 := fun j a b h ha hb => by
            by_cases hj : j + 1 < m + 1
            · exact hso.out j a b hj ha hb
            · obtain rfl : j = m := by omega
              rw [HX1.out] at ha
              rw [HY1.out] at hb
              cases ha
              cases hb
              exact HCC.out
          exact ⟨m + 2, by omega, .inl (by omega), by go_num, Lib.hid hnew, HB3⟩
        case measure => simp [intOf] <;> omega
      · have d1 : decide (0 ≤ cmpB x y) = true := by simp; omega
        have HCC := Lib.hid hc
        clear hc
        generalize cmpB x y = cv at d1
        go_wp2
        refine NoPanic.normal ?_
        go_wp2
        go_ret
        refine ⟨?_, HB2.out.trans (HB3.out.mono (by omega))⟩
        refine congrArg (fun b => Ending.returned (Value.bool b)) (?_ : _ = decide o.Good)
        symm
        rw [decide_eq_false_iff_not]
        rintro ⟨_, _, _, _, _, _, hs⟩
        have q1 := hs m x y HX1.out HY1.out
        have q2 := HCC.out
        omega
    · go_wp2
      go_ret
      refine ⟨?_, HB2.out.trans (hbr.out.mono (by omega))⟩
      refine congrArg (fun b => Ending.returned (Value.bool b)) (?_ : _ = decide o.Good)
      symm
      rw [decide_eq_true_iff]
      obtain ⟨q1, q2, q3, q4, q5, q6⟩ := HP.out
      refine ⟨q1, q2, q3, q4, q5, q6, fun j x y hx hy => hso.out j x y ?_ hx hy⟩
      have := (List.getElem?_eq_some_iff.1 hy).1
      omega
end Go.Proofs.YtfoifdhcelcgiaaGreatDoor

/- Good by the document. -/
namespace Go.Proofs.YtfoifdhcelcgiaaGreatDoor
open Go Go.RowKit

set_option maxRecDepth 100000 in
set_option maxHeartbeats 8000000 in
theorem ropgood_any (o : OpV) (ho : o.Ok) (p : Option Addr) (c : Nat) (w : World) (hs : Src w p (pcs o.preds)) :
    Calls Tryz.prog 65 #[.agg (o.cs p c).toArray] w fun e w' => e = .returned (.bool (decide o.Good)) ∧ Below w.heap.size w w' := by
  obtain ⟨hz, hid⟩ := info_two idInfo
  have HI := Lib.hid hid
  clear hz hid
  have HD := Lib.hid ho
  have HS := Lib.hid hs
  have hat : cellsAt (w.alloc (.cells (o.cs p c).toArray 46)) w.heap.size 0 (o.cs p c) := by simpa using cellsAt_new w (o.cs p c).toArray 46
  obtain ⟨w1, hw1⟩ : ∃ w1, w1 = w.alloc (.cells (o.cs p c).toArray 46) := ⟨_, rfl⟩
  rw [← hw1] at hat
  have hb1 : Below w.heap.size w w1 := by rw [hw1]; exact (Below.refl _ w).alloc (Nat.le_refl _) _
  have hlt : w.heap.size < w1.heap.size := by rw [hw1]; simp
  have HA := Lib.hid hat
  have HB1 := Lib.hid hb1
  have hn := ho.len
  clear hat ho hs hb1
  go_enter Tryz.func65, Tryz.ntmps65
  go_upto_region 1 with (first | (refine wpList_boxAgg _ rfl 46 _ rfl (o.cs p c).toArray (by rfl) ?_))
  rw [← hw1]
  clear hw1
  have hc37 := (OpV.cs_at HD.out HA.out).2.2
  go_wp2_with fail
  clear hc37
  go_loopw [7] (fun i wr => ∃ n : Nat, n ≤ o.preds.length ∧ i = .int .i64 n ∧ Hid (∀ j x y, j + 1 < n → o.preds[j]? = some x → o.preds[j + 1]? = some y → cmpB x y < 0) ∧ Hid (Below w1.heap.size w1 wr)) (fun i _ => o.preds.length - (intOf i).toNat)
  case atStart => exact ⟨0, by omega, rfl, Lib.hid (fun j x y h => absurd h (by omega)), Lib.hid (Below.refl _ _)⟩
  case round =>
    obtain ⟨n, hn2, rfl, hso, hbr⟩ := hrel
    have hszr := hbr.out.size
    have har : cellsAt wr w.heap.size 0 (o.cs p c) := HA.out.of_block (hbr.out.block _ hlt)
    have HAR := Lib.hid har
    clear har
    have HS1 := Lib.hid (HS.out.below HB1.out (Nat.le_refl _))
    by_cases hlt2 : n < o.preds.length
    · by_cases hn0 : n = 0
      · subst hn0
        go_upto_region 4 with fail
        refine wp_region_noPanic ?_
        refine wp_region_till 14 (fun w' => cellsAt w' w.heap.size 0 (o.cs p c)) (by kernel_rfl) (by kernel_rfl) ?_
        obtain ⟨wA, hwA⟩ : ∃ wA, wA = wr.drew := ⟨_, rfl⟩
        have HSA := Lib.hid (show cellsAt wA w.heap.size 0 (o.cs p c) by rw [hwA]; exact HAR.out)
        have HBA := Lib.hid (show Below w1.heap.size w1 wA by rw [hwA]; exact hbr.out.drew)
        rw [← hwA]
        clear hwA
        refine Till.pure 0 rfl rfl (by kernel_rfl) (NoPanic.noFrame _) HSA.out ?_
        go_big_quiet_step (fail)
        refine wpQuiet_nil ?_
        refine Till.pure 1 rfl rfl (by kernel_rfl) (NoPanic.noFrame _) HSA.out ?_
        go_big_quiet_step (fail)
        refine wpQuiet_nil ?_
        refine Till.pure 2 rfl rfl (by kernel_rfl) (NoPanic.noFrame _) HSA.out ?_
        go_big_quiet_step (fail)
        refine wpQuiet_nil ?_
        refine Till.pass 3 rfl (by rfl) (by kernel_rfl) (NoPanic.noFrame _) HSA.out ?_
        go_simp
        refine Till.pass 4 rfl (by rfl) (by kernel_rfl) (NoPanic.noFrame _) HSA.out ?_
        go_simp
        refine Till.pass 5 rfl (by rfl) (by kernel_rfl) (NoPanic.noFrame _) HSA.out ?_
        go_simp
        refine Till.pass 6 rfl (by rfl) (by kernel_rfl) (NoPanic.noFrame _) HSA.out ?_
        go_simp
        refine Till.pass 7 rfl (by rfl) (by kernel_rfl) (NoPanic.noFrame _) HSA.out ?_
        go_simp
        refine Till.pass 8 rfl (by rfl) (by kernel_rfl) (NoPanic.noFrame _) HSA.out ?_
        go_simp
        refine Till.pass 9 rfl (by rfl) (by kernel_rfl) (NoPanic.noFrame _) HSA.out ?_
        go_simp
        refine Till.pass 10 rfl (by rfl) (by kernel_rfl) (NoPanic.noFrame _) HSA.out ?_
        go_simp
        refine Till.pass 11 rfl (by rfl) (by kernel_rfl) (NoPanic.noFrame _) HSA.out ?_
        go_simp
        refine Till.pass 12 rfl (by rfl) (by kernel_rfl) (NoPanic.noFrame _) HSA.out ?_
        go_simp
        refine Till.pass 13 rfl (by rfl) (by kernel_rfl) (NoPanic.noFrame _) HSA.out ?_
        go_simp
        refine Till.tail _ rfl rfl (by kernel_rfl) (by kernel_rfl) ?_
        go_wp2
        refine NoPanic.normal ?_
        go_wp2
        go_roundw
        case rel => exact ⟨1, by omega, by go_num, Lib.hid (fun j x y h => absurd h (by omega)), HBA⟩
        case measure => simp [intOf] <;> omega
      · obtain ⟨m, rfl⟩ : ∃ m, n = m + 1 := ⟨n - 1, by omega⟩
        obtain ⟨x, g0, off, hx1, _, hx3, hp0, hx4⟩ := pred_at (HS1.out.below hbr.out (Nat.le_refl _)).at_ HD.out.ids (show m < o.preds.length by omega)
        obtain ⟨y, g1, off1, hy1, _, hy3, hp1, hy4⟩ := pred_at (HS1.out.below hbr.out (Nat.le_refl _)).at_ HD.out.ids hlt2
        subst hp0
        have := Option.some.inj hp1
        simp only [Addr.mk.injEq] at this
        obtain ⟨rfl, rfl, _⟩ := this
        clear hp1
        have hgl : g0 < wr.heap.size := bcs_at_lt hx4 hx3
        have HX1 := Lib.hid hx1
        have HY1 := Lib.hid hy1
        have HX3 := Lib.hid hx3
        have HY3 := Lib.hid hy3
        have HX4 := Lib.hid hx4
        have HY4 := Lib.hid hy4
        clear hx1 hy1 hx3 hy3 hx4 hy4
        have d0 : 0 < (m : Int) + 1 := by omega
        go_upto_region 4 with fail
        refine wp_region_noPanic ?_
        refine wp_region_till 14 (fun w' => cellsAt w' w.heap.size 0 (o.cs (some ⟨g0, off, none⟩) c) ∧ cellsAt w' g0 (off + m * 32) (bcs x) ∧ cellsAt w' g0 (off + (m + 1) * 32) (bcs y)) (by kernel_rfl) (by kernel_rfl) ?_
        obtain ⟨wA, hwA⟩ : ∃ wA, wA = wr.drew := ⟨_, rfl⟩
        have HSA := Lib.hid (show cellsAt wA w.heap.size 0 (o.cs (some ⟨g0, off, none⟩) c) ∧ cellsAt wA g0 (off + m * 32) (bcs x) ∧ cellsAt wA g0 (off + (m + 1) * 32) (bcs y) by rw [hwA]; exact ⟨HAR.out, HX4.out, HY4.out⟩)
        have HBA := Lib.hid (show Below w1.heap.size w1 wA by rw [hwA]; exact hbr.out.drew)
        rw [← hwA]
        clear hwA
        refine Till.pure 0 rfl rfl (by kernel_rfl) (NoPanic.noFrame _) HSA.out ?_
        go_big_quiet_step (fail)
        refine wpQuiet_nil ?_
        refine Till.pure 1 rfl rfl (by kernel_rfl) (NoPanic.noFrame _) HSA.out ?_
        go_big_quiet_step (fail)
        refine wpQuiet_nil ?_
        refine Till.pure 2 rfl rfl (by kernel_rfl) (NoPanic.noFrame _) HSA.out ?_
        go_big_quiet_step (fail)
        refine wpQuiet_nil ?_
        refine Till.pure 3 rfl rfl (by kernel_rfl) (NoPanic.noFrame _) HSA.out ?_
        go_big_quiet_step (fail)
        refine wpQuiet_nil ?_
        refine Till.load 4 28 _ ⟨w.heap.size, 37, none⟩ (.slice (some ⟨g0, off, none⟩) o.preds.length c) rfl rfl rfl rfl (by kernel_rfl) (NoPanic.noFrame _) HSA.out (fun w' hw' => run_loadVar_one Tryz.underlying28 rfl (OpV.cs_at HD.out hw'.1).2.2) ?_
        go_simp
        refine Till.pure 5 rfl rfl (by kernel_rfl) (NoPanic.noFrame _) HSA.out ?_
        go_big_quiet_step (fail)
        refine wpQuiet_nil ?_
        refine Till.pure 6 rfl rfl (by kernel_rfl) (NoPanic.noFrame _) HSA.out ?_
        go_big_quiet_step (fail)
        refine wpQuiet_nil ?_
        refine Till.pure 7 rfl rfl (by kernel_rfl) (NoPanic.noFrame _) HSA.out ?_
        go_big_quiet_step (fail)
        refine wpQuiet_nil ?_
        refine Till.load 8 31 _ ⟨g0, off + m * 32, none⟩ (idv x) rfl rfl rfl rfl (by kernel_rfl) (NoPanic.noFrame _) HSA.out (fun w' hw' => run_loadAgg Tryz.underlying31 rfl (by rw [HI.out, bcs_length, HX3.out]) hw'.2.1) ?_
        go_simp
        refine Till.pure 9 rfl rfl (by kernel_rfl) (NoPanic.noFrame _) HSA.out ?_
        go_big_quiet_step (fail)
        refine wpQuiet_nil ?_
        refine Till.load 10 28 _ ⟨w.heap.size, 37, none⟩ (.slice (some ⟨g0, off, none⟩) o.preds.length c) rfl rfl rfl rfl (by kernel_rfl) (NoPanic.noFrame _) HSA.out (fun w' hw' => run_loadVar_one Tryz.underlying28 rfl (OpV.cs_at HD.out hw'.1).2.2) ?_
        go_simp
        refine Till.pure 11 rfl rfl (by kernel_rfl) (NoPanic.noFrame _) HSA.out ?_
        go_big_quiet_step (fail)
        refine wpQuiet_nil ?_
        refine Till.pure 12 rfl rfl (by kernel_rfl) (NoPanic.noFrame _) HSA.out ?_
        go_big_quiet_step (fail)
        refine wpQuiet_nil ?_
        refine Till.load 13 31 _ ⟨g0, off + (m + 1) * 32, none⟩ (idv y) rfl rfl rfl rfl (by kernel_rfl) (NoPanic.noFrame _) HSA.out (fun w' hw' => run_loadAgg Tryz.underlying31 rfl (by rw [HI.out, bcs_length, HY3.out]) hw'.2.2) ?_
        go_simp
        refine Till.tail _ rfl rfl (by kernel_rfl) (by kernel_rfl) ?_
        go_wp2_with fail
        refine (refcmp_any x y HX3.out HY3.out wA).mono ?_
        rintro e w3 ⟨rfl, hb3⟩
        have HB3 := Lib.hid (HBA.out.trans (hb3.mono HBA.out.size))
        clear hb3
        have h3 := cmpB_three x y
        by_cases hc : cmpB x y = -1
        · have HCC := Lib.hid hc
          rw [hc]
          clear hc h3
          go_wp2
          refine NoPanic.normal ?_
          go_wp2
          go_roundw
          case rel =>
            have hnew : ∀ j a b, j + 1 < m + 2 → o.preds[j]? = some a → o.preds[j + 1]? = some b → cmpB a b < 0 := fun j a b h ha hb => by
              by_cases hj : j + 1 < m + 1
              · exact hso.out j a b hj ha hb
              · obtain rfl : j = m := by omega
                rw [HX1.out] at ha
                rw [HY1.out] at hb
                cases ha
                cases hb
                rw [HCC.out]
                decide
            exact ⟨m + 2, by omega, by go_num, Lib.hid hnew, HB3⟩
          case measure => simp [intOf] <;> omega
        · have HCC := Lib.hid (show 0 ≤ cmpB x y by omega)
          have d1 : (cmpB x y == -1) = false := by simpa using hc
          have d2 : (!(cmpB x y == -1)) = true := by rw [d1]; rfl
          clear hc h3
          generalize cmpB x y = cv at d1 d2
          go_wp2
          refine NoPanic.normal ?_
          go_wp2
          go_ret
          refine ⟨?_, HB1.out.trans (HB3.out.mono (by omega))⟩
          refine congrArg (fun b => Ending.returned (Value.bool b)) (?_ : _ = decide o.Good)
          symm
          rw [decide_eq_false_iff_not]
          rintro ⟨_, _, _, _, _, _, hs⟩
          have q1 := hs m x y HX1.out HY1.out
          have q2 := HCC.out
          omega
    · obtain rfl : n = o.preds.length := by omega
      have hsorted : Hid (sortedI o.preds) := Lib.hid fun j x y hx hy => hso.out j x y (List.getElem?_eq_some_iff.1 hy).1 hx hy
      obtain ⟨k1, k2, k3⟩ := OpV.cs_at HD.out HAR.out
      go_upto_region 9 with fail
      all_goals first
        | (go_ret; refine ⟨?_, HB1.out.trans (hbr.out.mono (by omega))⟩; refine congrArg (fun b => Ending.returned (Value.bool b)) (?_ : _ = decide o.Good); symm; rw [decide_eq_false_iff_not]; rintro ⟨q1, q2, q3, q4, q5, q6, _⟩; clear HI HD HS HA HB1 HAR HS1 k1 k2 k3 hsorted hso hbr; grind)
        | skip
      all_goals
        (have HQ := Lib.hid (show (o.preds.length = 0 ↔ o.depth = 1) ∧ o.preds.length ≤ 32 ∧ 1 ≤ o.depth by clear HI HD HS HA HB1 HAR HS1 k1 k2 k3 hsorted hso hbr; refine ⟨?_, ?_, ?_⟩ <;> grind)
         go_wp2_with (first
           | (refine wpList_loadAgg _ rfl 44 _ rfl _ Tryz.underlying44 rfl w.heap.size 0 (by rfl) o.d.cs (by rw [draftInfo, Dr.cs_length HD.out.d]) (OpV.cs_d HAR.out) ?_))
         refine (rgoodD_any o.d HD.out.d wr).mono ?_
         rintro e w2 ⟨rfl, hb2⟩
         have hz2 := hb2.size
         have ha2 : cellsAt w2 w.heap.size 0 (o.cs p c) := HAR.out.of_block (hb2.block _ (by omega))
         have HB2 := Lib.hid (HB1.out.trans ((hbr.out.trans (hb2.mono (by omega))).mono (by omega)))
         have q1 := (OpV.cs_at HD.out ha2).1
         obtain ⟨g, hg⟩ : ∃ g, g = goodD o.d := ⟨_, rfl⟩
         rw [← hg]
         have HG := Lib.hid hg
         clear hg hb2 ha2 k1 k2 k3
         go_wp2)
      all_goals go_ret
      all_goals refine ⟨?_, HB2.out⟩
      all_goals refine congrArg (fun b => Ending.returned (Value.bool b)) (?_ : _ = decide o.Good)
      all_goals have hiff : o.Good ↔ g = true ∧ 0 ≤ o.author ∧ o.author < 5 := ⟨fun h => ⟨HG.out.trans h.d, h.a0, h.a1⟩, fun h => ⟨HG.out.symm.trans h.1, h.2.1, h.2.2, HQ.out.2.2, HQ.out.2.1, HQ.out.1, hsorted.out⟩⟩
      all_goals refine Bool.eq_iff_iff.2 (Iff.trans ?_ (Iff.trans hiff.symm decide_eq_true_iff.symm))
      all_goals (clear hiff HI HD HS HA HB1 HAR HS1 hsorted hso hbr HB2; first | grind | (simp only [decide_eq_true_iff]; grind) | (simp; omega))
end Go.Proofs.YtfoifdhcelcgiaaGreatDoor

/- slices.Clone of names; dag.clone. -/
namespace Go.Proofs.YtfoifdhcelcgiaaGreatDoor
open Go Go.RowKit

theorem run_eql_slice_nil {P : Program} (w : World) (t e : TypeId) (a : Option Addr) (l c : Nat) (h : P.underlying t = some (.slice e)) : (binOp .eql t (.slice a l c) (.slice none 0 0)).run P w = .ok (.bool a.isNone) w := by
  simp only [binOp]
  simp [run_equal_slice_nil w t e a l c h]

theorem idInfo3 : (Tryz.prog.info? 31).map (fun i => (i.zero, i.size, i.bytes)) = some (some (.agg (fillB [] 32)), 32, 32) := by kernel_rfl

theorem pcs_one (l : List (List UInt8)) : ∀ u ∈ pcs l, u.oneCell' = true := fun u hu => by
  simp only [pcs, List.mem_flatMap] at hu
  obtain ⟨x, _, hx⟩ := hu
  exact bcs_one x u hx

/-- a slice of names that is new since w0 -/
structure NewSrc (B : Nat) (w : World) (v : Value) (l : List (List UInt8)) : Prop where
  ex : ∃ p c, v = .slice p l.length c ∧ Src w p (pcs l) ∧ (∀ b off, p = some ⟨b, off, none⟩ → B ≤ b) ∧ (∀ b off, p = some ⟨b, off, none⟩ → off = 0)

theorem Owns.newSrc {w : World} {base : Nat} {v : Value} {l : List (List UInt8)} (h : Owns w base 31 32 v l.length (pcs l)) : NewSrc base w v l := by
  obtain ⟨p, c, rfl⟩ := h.form
  exact ⟨p, c, rfl, ⟨h.src⟩, fun b off e => (h.at e).1, fun b off e => (h.at e).2.2.1⟩

/-- append of nothing: wherever it is said to lie -/
theorem run_append_zero {P : Program} (t ty e : TypeId) (i : TypeInfo) (ht : P.underlying t = some (.slice e)) (hi : P.info? e = some i) (p : Option Addr) (n cap : Nat) (hnc : n ≤ cap) (q : Addr) (c : Nat) (w : World) :
    (Builtin.append_ #[t, t] ty #[.slice p n cap, .slice (some q) 0 c]).run P w = .ok (.slice p n cap) w := by
  cases p <;> simp [Builtin.append_, run_underlying ht, sizeOf, typeInfo, hi, Builtin.lenOf, Builtin.firstCells, loadCells, loadCellsFrom, hnc, storeCells, Result.andThen]
theorem wpList_append_zero {P : Program} {w : World} {ops : Array Oper} {rest : List Oper} {o : Oper} {a : Act} {Q : Exit → Act → World → Prop} (hgd : o.guard = none) (s x : Operand) (t : TypeId)
    (ho : o.op = .call { callee := .builtin .append, args := #[s, x], argTypes := #[t, t] }) (e : TypeId) (i : TypeInfo) (ht : P.underlying t = some (.slice e)) (hi : P.info? e = some i) (p : Option Addr) (n cap : Nat) (hnc : n ≤ cap) (q : Addr) (c : Nat)
    (hs : a.eval s = .slice p n cap) (hx : a.eval x = .slice (some q) 0 c) (h : wpList P ops Q rest (a.put o.dst (.slice p n cap)) w) : wpList P ops Q (o :: rest) a w :=
  wpList_plain hgd fun _ hK => by
    have hrun := run_append_zero t o.type e i ht hi p n cap hnc q c w
    unfold Oper.wp execOp
    simp only [ho, resolve, invoke, builtin, Sem.run_bind, Sem.run_pure, Result.andThen_ok, List.map_toArray, List.map_cons, List.map_nil, hs, hx, hrun]
    exact hK _ _ h

set_option maxRecDepth 100000 in
set_option maxHeartbeats 4000000 in
theorem sclone_any (l : List (List UInt8)) (h32 : ∀ x ∈ l, x.length = 32) (hl : l.length ≤ 1048576) (p : Option Addr) (c : Nat) (w : World) (hs : Src w p (pcs l)) :
    Calls Tryz.prog 42 #[.slice p l.length c] w fun e w' => ∃ v, e = .returned v ∧ Owns w' w.heap.size 31 32 v l.length (pcs l) ∧ Below w.heap.size w w' := by
  obtain ⟨i0, hi, hz0, hz1, hz2⟩ := info_parts idInfo3
  have u29 := fun (a : Option Addr) (l c : Nat) (w : World) => run_eql_slice_nil (P := Tryz.prog) w 28 31 a l c Tryz.underlying28
  have HS := Lib.hid hs
  have HL := Lib.hid (show (pcs l).length = l.length * 32 by rw [pcs_length h32, Nat.mul_comm])
  clear hs
  go_enter Tryz.func42, Tryz.ntmps42
  cases p with
  | none =>
    have h0 : l = [] := by
      cases l with
      | nil => rfl
      | cons a l =>
        have ha := h32 a (by simp)
        obtain ⟨b, off, e, _⟩ := HS.out.at_ (32 * 0 + 0) _ (pcs_at h32 (n := 0) (x := a) rfl (bcs_get (by omega)))
        cases e
    subst h0
    go_wp2
    go_ret
    exact ⟨_, rfl, Owns.nil _ _ _ _, Below.refl _ _⟩
  | some q =>
    have O1 : Hid (Owns (w.alloc (.cells #[] 31)) w.heap.size 31 32 (.slice (some ⟨w.heap.size, 0, none⟩) 0 0) 0 []) := Lib.hid
      ⟨rfl, .inr ⟨w.heap.size, 0, #[], (0, 0), rfl, Nat.le_refl _, (MapKept.heap_alloc _ _).1, ⟨.inl (Nat.zero_le _), fun _ => rfl⟩, Nat.le_refl _, by unfold maxLen; omega, rfl, rfl⟩⟩
    cases l with
    | nil =>
      go_wp2_with (first
        | (refine wpList_append_zero rfl _ _ 28 rfl 31 i0 Tryz.underlying28 hi _ 0 0 (Nat.le_refl _) q c (by rfl) (by rfl) ?_))
      go_ret
      exact ⟨_, rfl, O1.out, (Below.refl _ w).alloc (Nat.le_refl _) _⟩
    | cons l0 lr =>
    obtain ⟨l, hl'⟩ : ∃ l, l = l0 :: lr := ⟨_, rfl⟩
    rw [← hl'] at hl h32 HS HL ⊢
    have HNE : pcs l ≠ [] := fun e => by
      have h1 := HL.out
      rw [e, hl'] at h1
      simp at h1
    clear hl'
    have S1 : Hid (SrcAt (w.alloc (.cells #[] 31)) (some q) (pcs l)) := Lib.hid (HS.out.below ((Below.refl _ w).alloc (Nat.le_refl _) _) (Nat.le_refl _)).at_
    go_wp2_with (first
      | (refine wpList_append_G rfl _ _ 28 rfl w.heap.size 31 i0 _ 32 32 Tryz.underlying28 hi hz0 hz1 hz2 (by rfl) (by omega) _ 0 [] (by rfl) O1.out (some q) l.length c (pcs l) (by rfl) HL.out S1.out (HS.out.spot HNE) (pcs_one l) (by unfold maxLen; omega) (by omega) (by simp) ?_; intro v2 w2 hv2 hg2 hs2))
    all_goals skip
    go_ret
    refine ⟨_, rfl, by simpa using hv2, below_grown ((Below.refl _ w).alloc (Nat.le_refl _) _) hg2 O1.out (by simp)⟩

theorem opInfo2 : (Tryz.prog.info? 46).map (fun i => (i.zero.map (·.cells.size), i.size)) = some (some 38, 38) := by kernel_rfl

theorem OpV.cs_one (o : OpV) (p : Option Addr) (c : Nat) : ∀ u ∈ o.cs p c, u.oneCell' = true := fun u hu => by
  simp only [OpV.cs, List.mem_append, List.mem_cons, List.not_mem_nil, or_false] at hu
  rcases hu with hu | rfl | rfl | rfl
  · exact Dr.cs_one _ u hu
  · rfl
  · rfl
  · rfl

theorem OpV.cs_set {o : OpV} (ho : o.Ok) (p p' : Option Addr) (c c' : Nat) : (o.cs p c).toArray.setIfInBounds 37 (.slice p' o.preds.length c') = (o.cs p' c').toArray := by
  apply Array.ext'
  simp only [Array.toList_setIfInBounds]
  unfold OpV.cs
  rw [List.set_append_right _ _ (by rw [Dr.cs_length ho.d]; omega), Dr.cs_length ho.d]
  rfl

/-- an operation as a value: its predecessors in a row of its own, made since B -/
def OpNew (B : Nat) (w : World) (v : Value) (o : OpV) : Prop := ∃ p c, v = .agg (o.cs p c).toArray ∧ Owns w B 31 32 (.slice p o.preds.length c) o.preds.length (pcs o.preds)

set_option maxRecDepth 100000 in
set_option maxHeartbeats 4000000 in
theorem opclone_any (o : OpV) (ho : o.Ok) (p : Option Addr) (c : Nat) (w : World) (hs : Src w p (pcs o.preds)) :
    Calls Tryz.prog 59 #[.agg (o.cs p c).toArray] w fun e w' => ∃ v, e = .returned v ∧ OpNew w.heap.size w' v o ∧ Below w.heap.size w w' := by
  obtain ⟨hi2, Z2, hz2, hz3⟩ := zero_of (P := Tryz.prog) opInfo2
  have HZ := Lib.hid hz2
  have HZ3 := Lib.hid hz3
  have HD := Lib.hid ho
  have HS := Lib.hid hs
  obtain ⟨w1, hw1⟩ : ∃ w1, w1 = (w.alloc (.cells (o.cs p c).toArray 46)).alloc (.cells Z2.cells 46) := ⟨_, rfl⟩
  have hb1 : Below w.heap.size w w1 := by rw [hw1]; exact ((Below.refl _ w).alloc (Nat.le_refl _) _).alloc (by simp) _
  have hd1 : w1.heap[w.heap.size + 1]? = some (.cells Z2.cells 46 (0, 0)) := by rw [hw1]; exact heap_alloc2 _ _ _
  have ha1 : w1.heap[w.heap.size]? = some (.cells (o.cs p c).toArray 46 (0, 0)) := by rw [hw1]; exact ((MapKept.heap_alloc _ _).2 _ (by simp)).trans (MapKept.heap_alloc _ _).1
  have hz1 : w1.heap.size = w.heap.size + 2 := by rw [hw1]; simp
  have h37 : w1.cell? ⟨w.heap.size, 37, none⟩ = some (.slice p o.preds.length c) := (OpV.cs_at ho (fun j u hj => by rw [cell_of_row _ _ _ _ _ _ ha1, Nat.zero_add]; simpa using hj)).2.2
  have HB := Lib.hid hb1
  have HD1 := Lib.hid hd1
  have HA1 := Lib.hid ha1
  have HS1 := Lib.hid (HS.out.below hb1 (Nat.le_refl _))
  clear ho hs hz2 hz3 hb1 hd1 ha1
  go_enter Tryz.func59, Tryz.ntmps59
  go_upto_region 1 with (first
    | (refine wpList_boxAgg _ rfl 46 _ rfl (o.cs p c).toArray (by rfl) ?_)
    | (refine wpList_allocZ _ rfl 46 rfl Z2 HZ.out ?_))
  rw [← hw1]
  clear hw1
  go_wp2_with fail
  clear h37
  refine (sclone_any o.preds HD.out.ids HD.out.len p c w1 HS1.out).mono ?_
  rintro e w2 ⟨v, rfl, hown, hb2⟩
  obtain ⟨p2, c2, rfl⟩ := hown.form
  have hz2 := hb2.size
  have HO := Lib.hid hown
  have HB2 := Lib.hid (HB.out.trans (hb2.mono (by omega)))
  have ha2 := (hb2.block w.heap.size (by omega)).trans HA1.out
  have HD2 := Lib.hid ((hb2.block _ (by omega)).trans HD1.out)
  have hf2 : w2.frozen? ⟨w.heap.size, 37, none⟩ = false := by simp [World.frozen?, ha2]
  have hc2 : w2.cell? ⟨w.heap.size, 37, none⟩ = some (.slice p o.preds.length c) := (OpV.cs_at HD.out (fun j u hj => by rw [cell_of_row _ _ _ _ _ _ ha2, Nat.zero_add]; simpa using hj)).2.2
  have HA2 := Lib.hid ha2
  clear hown hb2 ha2
  go_upto_region 2 with fail
  obtain ⟨w3, hw3⟩ : ∃ w3, w3 = w2.setCell ⟨w.heap.size, 37, none⟩ (.slice p2 o.preds.length c2) := ⟨_, rfl⟩
  have hg3 : w2.grownBy w3 (some w.heap.size) := by rw [hw3]; exact grownBy_set _ _ _ _
  have ha3 : w3.heap[w.heap.size]? = some (.cells (o.cs p2 c2).toArray 46 (0, 0)) := by
    rw [hw3, setCell_eq_setRow w2 w.heap.size 37 _ _ (0, 0) _ HA2.out, setRow_heap w2 w.heap.size _ _ _ (0, 0) HA2.out, OpV.cs_set HD.out]
  have hz3 := hg3.size
  have hd3 := (hg3.block (w.heap.size + 1) (by omega) (fun e => by have := Option.some.inj e; omega)).trans HD2.out
  have ho3 := HO.out.keep (w' := w3) (fun g hg => by
    have h1 := HO.out.lt hg
    exact hg3.block g h1.2 (fun e => by have := Option.some.inj e; omega))
  have hb3 : Below w.heap.size w w3 := HB2.out.grown hg3 (by omega) (fun k e => by have := Option.some.inj e; omega)
  rw [← hw3]
  have HA3 := Lib.hid (show cellsAt w3 w.heap.size 0 (o.cs p2 c2) from fun j u hj => by rw [cell_of_row _ _ _ _ _ _ ha3, Nat.zero_add]; simpa using hj)
  have HD3 := Lib.hid hd3
  have HO3 := Lib.hid ho3
  have HB3 := Lib.hid hb3
  have HC3 := Lib.hid (OpV.cs_length HD.out p2 c2)
  clear hw3 hg3 ha3 hd3 ho3 hb3 hf2 hc2
  go_wp2_with (first
    | (refine wpList_loadAgg _ rfl 46 _ rfl _ Tryz.underlying46 rfl w.heap.size 0 (by rfl) (o.cs p2 c2) (by rw [opInfo, HC3.out]) HA3.out ?_)
    | (refine wpList_storeRow rfl 46 _ _ rfl HD3.out (by rfl) (o.cs p2 c2).toArray (by rfl) (by rw [opInfo, List.size_toArray, HC3.out]) (by rw [HZ3.out, List.size_toArray, HC3.out]) (by simpa using OpV.cs_one o p2 c2) ?_; intro w6 hw6 hg6 hs6))
  have hcf : cellsAt w6 (w.heap.size + 1) 0 (o.cs p2 c2) := fun j u hj => by rw [cell_of_row _ _ _ _ _ _ hw6, Nat.zero_add]; simpa using hj
  have hbf : Below w.heap.size w w6 := HB3.out.grown hg6 (by omega) (fun k e => by have := Option.some.inj e; omega)
  have ho6 := HO3.out.keep (w' := w6) (fun g hg => by
    have h1 := HO3.out.lt hg
    exact hg6.block g h1.2 (fun e => by have := Option.some.inj e; omega))
  refine bodyPost_ret (results_cell rfl (by rfl) (run_loadAgg Tryz.underlying46 rfl (by rw [opInfo, HC3.out]) hcf)) rfl ⟨_, rfl, ⟨p2, c2, rfl, ho6.down (by omega)⟩, hbf⟩
end Go.Proofs.YtfoifdhcelcgiaaGreatDoor

/- tribunalref02.Of: a text's digest, by the document: the same. -/
namespace Go.Proofs.YtfoifdhcelcgiaaGreatDoor
open Go Go.RowKit


theorem w4Info : (Tryz.prog.info? 129).map (fun i => (i.zero, i.size, i.bytes)) = some (some (.int .u32 0), 1, 4) := by kernel_rfl
theorem w4Two : (Tryz.prog.info? 129).map (fun i => (i.zero, i.size)) = some (some (.int .u32 0), 1) := by kernel_rfl
theorem fill8 (x0 x1 x2 x3 x4 x5 x6 x7 : UInt32) : Instr.fill (fun i => some (i * 1, 1)) ((Array.range (8 * 1)).map (#[Value.int .u32 0][· % 1]!)) [(0, vw x0), (1, vw x1), (2, vw x2), (3, vw x3), (4, vw x4), (5, vw x5), (6, vw x6), (7, vw x7)] = some #[vw x0, vw x1, vw x2, vw x3, vw x4, vw x5, vw x6, vw x7] := by kernel_rfl
theorem run_build8 (x0 x1 x2 x3 x4 x5 x6 x7 : UInt32) (w : World) : (Instr.buildSlice 133 8 #[(0, vw x0), (1, vw x1), (2, vw x2), (3, vw x3), (4, vw x4), (5, vw x5), (6, vw x6), (7, vw x7)]).run Tryz.prog w =
    .ok (.slice (some ⟨w.heap.size, 0, none⟩) 8 8) (w.alloc (.cells #[vw x0, vw x1, vw x2, vw x3, vw x4, vw x5, vw x6, vw x7] 129)) := by
  obtain ⟨hz, hi⟩ := info_two w4Two
  have hf := fill8 x0 x1 x2 x3 x4 x5 x6 x7
  unfold Instr.buildSlice
  simp only [Sem.run_bind, run_underlying Tryz.underlying133, Result.andThen_ok, sizeOf_of hi]
  rw [if_neg (by omega), if_neg (by omega)]
  simp only [Sem.run_bind, hz, Result.andThen_ok, Sem.run_pure]
  simp only [Value.cells] at hf ⊢
  rw [show (#[Value.int .u32 0] : Array Value).size = 1 from rfl, hf]
  rfl
theorem wpList_build8 (w : World) {ops : Array Oper} {rest : List Oper} {o : Oper} {a : Act} {Q : Exit → Act → World → Prop} (hg : o.guard = none) (a0 a1 a2 a3 a4 a5 a6 a7 : Operand) (hop : o.op = .buildSlice 133 8 #[(0, a0), (1, a1), (2, a2), (3, a3), (4, a4), (5, a5), (6, a6), (7, a7)])
    (x0 x1 x2 x3 x4 x5 x6 x7 : UInt32) (h0 : a.eval a0 = vw x0) (h1 : a.eval a1 = vw x1) (h2 : a.eval a2 = vw x2) (h3 : a.eval a3 = vw x3) (h4 : a.eval a4 = vw x4) (h5 : a.eval a5 = vw x5) (h6 : a.eval a6 = vw x6) (h7 : a.eval a7 = vw x7)
    (h : wpList Tryz.prog ops Q rest (a.put o.dst (.slice (some ⟨w.heap.size, 0, none⟩) 8 8)) (w.alloc (.cells #[vw x0, vw x1, vw x2, vw x3, vw x4, vw x5, vw x6, vw x7] 129))) : wpList Tryz.prog ops Q (o :: rest) a w := by
  refine wpList_plain hg fun K' hK' => ?_
  have hr := run_build8 x0 x1 x2 x3 x4 x5 x6 x7 w
  unfold Oper.wp execOp
  simp only [hop, List.map_toArray, List.map_cons, List.map_nil, h0, h1, h2, h3, h4, h5, h6, h7, Sem.run_bind, hr, Result.andThen_ok, Sem.run_pure]
  exact hK' _ _ h
end Go.Proofs.YtfoifdhcelcgiaaGreatDoor
