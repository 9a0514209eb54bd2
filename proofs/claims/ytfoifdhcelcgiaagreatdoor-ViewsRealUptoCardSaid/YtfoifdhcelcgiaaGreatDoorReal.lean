/-
  tribunallaw12.real: there is an operation of a kind, a key, and a value.
-/
import Derived.Test.YtfoifdhcelcgiaaGreatDoorLineK
import Derived.Test.YtfoifdhcelcgiaaGreatDoorJj
namespace Go.Proofs.YtfoifdhcelcgiaaGreatDoor
open Go Go.RowKit

set_option maxRecDepth 100000 in
set_option maxHeartbeats 8000000 in
theorem real_any (kind : Int) (key val : Tx) (b : Nat) (vo vw vn vm : Value) (F B : Nat → Prop) (O W : List E3) (w : World) (h : RefSet w b vo vw vn vm F B O W) (hL : O.length ≤ 1000) (hex : ∃ e ∈ O, e.o.d.kind = kind ∧ e.o.d.key = key ∧ e.o.d.value = val) :
    Calls Tryz.prog 28 #[.pointer (some ⟨b, 0, none⟩), .int .i64 kind, txt key, txt val] w fun e w' => e = .returned (.bool true) ∧ Below w.heap.size w w' := by
  obtain ⟨hzo, _⟩ := info_two opZero
  have HZO := Lib.hid hzo
  have HEX := Lib.hid hex
  obtain ⟨p, cap, hv⟩ := h.ops.form
  subst hv
  have hc0 := h.c0
  have HS := Lib.hid h.ops.srcOf
  have HOK := Lib.hid h.okO
  have H38 := Lib.hid (show ∀ e ∈ O, e.cs.length = 38 from fun e he => OpV.cs_length (h.okO e he).ok _ _)
  clear h hzo hex
  go_enter Tryz.func28, Tryz.ntmps28
  go_upto_region 2 with fail
  clear hc0
  go_loopw [16] (fun i wr => ∃ n : Nat, n ≤ O.length ∧ i = .int .i64 n ∧ Hid (∀ e ∈ O.take n, ¬ (e.o.d.kind = kind ∧ e.o.d.key = key ∧ e.o.d.value = val)) ∧ Hid (Below w.heap.size w wr)) (fun i _ => O.length - (intOf i).toNat)
  case atStart => exact ⟨0, by omega, rfl, Lib.hid (by simp), Lib.hid (Below.refl _ _)⟩
  case round =>
    obtain ⟨n, hn1, rfl, HNO, HB⟩ := hrel
    have hzr := HB.out.size
    by_cases hlt : n < O.length
    · obtain ⟨ex, gx, ox, hx1, hx2, hx3, hpx, hx4⟩ := op_at (HS.out.below HB.out (Nat.le_refl _)).at_ H38.out hlt
      subst hpx
      have HTK := Lib.hid hx2
      obtain ⟨xo, hxo⟩ : ∃ y, y = ex.o := ⟨_, rfl⟩
      obtain ⟨xp, hxp⟩ : ∃ y, y = ex.p := ⟨_, rfl⟩
      obtain ⟨xc, hxc⟩ : ∃ y, y = ex.c := ⟨_, rfl⟩
      have hcs : ex.cs = xo.cs xp xc := by rw [hxo, hxp, hxc]; rfl
      have HCx := Lib.hid (show cellsAt wr gx (ox + n * 38) (xo.cs xp xc) by rw [← hcs]; exact hx4)
      have H38x := Lib.hid (show (xo.cs xp xc).length = 38 by rw [← hcs]; exact H38.out ex hx3)
      have HON := Lib.hid (OpV.cs_one xo xp xc)
      have HOZ := Lib.hid (show (zeroOp.cs none 0).toArray.size = (xo.cs xp xc).toArray.size by rw [List.size_toArray, List.size_toArray, H38x.out]; rfl)
      have HXO := Lib.hid hxo
      clear hcs hxo hxp hxc hx1 hx2 hx3 hx4
      go_upto_region 4 with (first
        | (refine wpList_loadAgg _ rfl 46 _ rfl _ Tryz.underlying46 rfl gx (ox + n * 38) (by rfl) (xo.cs xp xc) (by rw [opInfo, H38x.out]) HCx.out ?_)
        | (refine wpList_allocZ _ rfl 46 rfl _ HZO.out ?_)
        | (refine wpList_storeNew _ wr rfl 46 _ _ rfl (zeroOp.cs none 0).toArray rfl (by rfl) (xo.cs xp xc).toArray (by rfl) (by rw [opInfo, List.size_toArray, H38x.out]) HOZ.out (by simpa using HON.out) ?_))
      obtain ⟨w6, hw6⟩ : ∃ w6, w6 = wr.alloc (.cells (xo.cs xp xc).toArray 46) := ⟨_, rfl⟩
      rw [← hw6]
      obtain ⟨k6, hk6⟩ : ∃ k, k = wr.heap.size := ⟨_, rfl⟩
      rw [← hk6]
      have hb6 : Below wr.heap.size wr w6 := by rw [hw6]; exact (Below.refl _ wr).alloc (Nat.le_refl _) _
      have hC6 : cellsAt w6 k6 0 (xo.cs xp xc) := by rw [hw6, hk6]; simpa using cellsAt_new wr (xo.cs xp xc).toArray 46
      have HB6 := Lib.hid (HB.out.trans (hb6.mono hzr))
      have hc0 := (OpV.cs_kind hC6).1
      have hc1 := (OpV.cs_kind hC6).2.1
      have hc2 := (OpV.cs_kind hC6).2.2
      clear hw6 hk6 hb6 hC6
      have HSTEP := Lib.hid (show ¬ (xo.d.kind = kind ∧ xo.d.key = key ∧ xo.d.value = val) → ∀ e ∈ O.take (n + 1), ¬ (e.o.d.kind = kind ∧ e.o.d.key = key ∧ e.o.d.value = val) from fun hne e he => by
        rw [HTK.out] at he
        rcases List.mem_append.1 he with h1 | h1
        · exact HNO.out e h1
        · rw [List.mem_singleton.1 h1, ← HXO.out]
          exact hne)
      obtain ⟨xk, hxk⟩ : ∃ y, y = xo.d.kind := ⟨_, rfl⟩
      obtain ⟨xt, hxt⟩ : ∃ y, y = xo.d.key := ⟨_, rfl⟩
      obtain ⟨xv, hxv⟩ : ∃ y, y = xo.d.value := ⟨_, rfl⟩
      rw [← hxk] at hc0 HSTEP
      rw [← hxt] at hc1 HSTEP
      rw [← hxv] at hc2 HSTEP
      clear hxk hxt hxv
      by_cases h1 : xk = kind
      · have e1 : (xk == kind) = true := beq_iff_eq.2 h1
        have H1 := Lib.hid h1
        clear h1
        by_cases h2 : xt = key
        · have H2 := Lib.hid h2
          have e2 : (xt == key) = true := beq_iff_eq.2 h2
          have e2' : ((⟨xt.toArray⟩ : ByteArray).toList == (⟨key.toArray⟩ : ByteArray).toList) = true := by rw [h2]; simp
          clear h2
          by_cases h3 : xv = val
          · have H3 := Lib.hid h3
            have e3 : (xv == val) = true := beq_iff_eq.2 h3
            have e3' : ((⟨xv.toArray⟩ : ByteArray).toList == (⟨val.toArray⟩ : ByteArray).toList) = true := by rw [h3]; simp
            clear h3
            go_wp2
            go_ret
            exact ⟨rfl, HB6.out⟩
          · have HS3 := Lib.hid (HSTEP.out fun h => h3 h.2.2)
            have e3 : (xv == val) = false := beq_eq_false_iff_ne.2 h3
            have e3' : ((⟨xv.toArray⟩ : ByteArray).toList == (⟨val.toArray⟩ : ByteArray).toList) = false := by
              rw [ByteArray.toList_eq, ByteArray.toList_eq, beq_eq_false_iff_ne]
              exact h3
            clear h3
            go_wp2
            go_roundw
            case rel => exact ⟨n + 1, by omega, by go_num, HS3, HB6⟩
            case measure => simp [intOf] <;> omega
        · have HS3 := Lib.hid (HSTEP.out fun h => h2 h.2.1)
          have e2 : (xt == key) = false := beq_eq_false_iff_ne.2 h2
          have e2' : ((⟨xt.toArray⟩ : ByteArray).toList == (⟨key.toArray⟩ : ByteArray).toList) = false := by
            rw [ByteArray.toList_eq, ByteArray.toList_eq, beq_eq_false_iff_ne]
            exact h2
          clear h2
          go_wp2
          go_roundw
          case rel => exact ⟨n + 1, by omega, by go_num, HS3, HB6⟩
          case measure => simp [intOf] <;> omega
      · have HS3 := Lib.hid (HSTEP.out fun h => h1 h.1)
        have e1 : (xk == kind) = false := beq_eq_false_iff_ne.2 h1
        clear h1
        go_wp2
        go_roundw
        case rel => exact ⟨n + 1, by omega, by go_num, HS3, HB6⟩
        case measure => simp [intOf] <;> omega
    · obtain rfl : n = O.length := by omega
      obtain ⟨e, he, hm⟩ := HEX.out
      exact absurd hm (HNO.out e (by rw [List.take_length]; exact he))
end Go.Proofs.YtfoifdhcelcgiaaGreatDoor
