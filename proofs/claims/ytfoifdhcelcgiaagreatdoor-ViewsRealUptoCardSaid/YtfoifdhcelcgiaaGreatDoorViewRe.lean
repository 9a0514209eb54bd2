/-
  ViewsReal, walked: what a set holds was added, and what a register holds was put there, by an operation that is there.
-/
import Derived.Test.YtfoifdhcelcgiaaGreatDoorAliV
import Derived.Test.YtfoifdhcelcgiaaGreatDoorViewT
import Derived.Test.YtfoifdhcelcgiaaGreatDoorVal
import Derived.Test.YtfoifdhcelcgiaaGreatDoorReal
import Derived.Test.YtfoifdhcelcgiaaGreatDoorRisT
namespace Go.Proofs.YtfoifdhcelcgiaaGreatDoor
open Go Go.RowKit

theorem run_geq_tx {P : Program} {u v : Tx} (t : TypeId) (h : u < v) (w : World) : (binOp .geq t (txt u) (txt v)).run P w = .ok (.bool false) w := by
  show Result.ok (Value.bool (!Op.bytesLess (⟨u.toArray⟩ : ByteArray).toList (⟨v.toArray⟩ : ByteArray).toList)) w = _
  rw [ByteArray.toList_eq, ByteArray.toList_eq]
  show Result.ok (Value.bool (!Op.bytesLess u v)) w = _
  rw [less_tx, decide_eq_true h]
  rfl
theorem lastV_cases (L : List NOp) : lastV L = ([], false) ∨ ∃ e ∈ L, lastV L = (e.2.d.value, true) := by
  cases h : L.getLast? with
  | none => exact .inl (by unfold lastV; rw [h]; rfl)
  | some e => exact .inr ⟨e, List.mem_of_getLast? h, by unfold lastV; rw [h]; rfl⟩
theorem pickO_one {key : Tx} {k : Int} {e : NOp} (h : pickO key [k] e = true) : e.2.d.kind = k ∧ e.2.d.key = key := by
  unfold pickO at h
  simp at h
  exact ⟨h.2, h.1⟩
theorem ent_back {O O2 : List E3} (h : O2.map E3.ent = O.map E3.ent) {e : NOp} (he : e ∈ O.map E3.ent) : ∃ e3 ∈ O2, e3.o = e.2 := by
  rw [← h] at he
  obtain ⟨e3, h1, h2⟩ := List.mem_map.1 he
  exact ⟨e3, h1, congrArg Prod.snd h2⟩
theorem strict_lt {L : List Tx} (h : L.Pairwise (· < ·)) {k : Nat} {x y : Tx} (hx : L[k]? = some x) (hy : L[k + 1]? = some y) : x < y := by
  obtain ⟨h1, h2⟩ := List.getElem?_eq_some_iff.1 hx
  obtain ⟨h3, h4⟩ := List.getElem?_eq_some_iff.1 hy
  rw [← h2, ← h4]
  exact List.pairwise_iff_getElem.1 h k (k + 1) h1 h3 (Nat.lt_succ_self k)
set_option maxRecDepth 100000 in
set_option maxHeartbeats 16000000 in
theorem viewsReal_any (M : List MkV) (hM : ∀ m ∈ M, m.Ok) (p : Option Addr) (cap : Nat) (w : World) (hT : Tabs w) (hs : Src w p (mcs M)) (hps : ∀ m ∈ M, Src w m.p (pcs m.o.preds)) (hMl : M.length ≤ 1000000000) (key : List UInt8) (hkey : key.length < 1048577) :
    Calls Tryz.prog 6 #[.slice p M.length cap, txt key] w fun e w' => e = .returned (.bool true) ∧ Below w.heap.size w w' := by
  have HM := Lib.hid hM
  have HS := Lib.hid hs
  have HPS := Lib.hid hps
  have HT := Lib.hid hT
  clear hM hs hps hT
  go_enter Tryz.func6, Tryz.ntmps6
  go_upto_region 3 with (go_at_call 25; refine (alive12_any w HT.out).mono ?_; rintro e w1 ⟨rfl, hb1⟩)
  have hz1 := hb1.size
  have HB1 := Lib.hid hb1
  have HCB := Lib.hid (both12_any M HM.out p cap w1 (HT.out.of_below hb1 HT.out.2.2) (HS.out.below hb1 (Nat.le_refl _)) (fun m hm => (HPS.out m hm).below hb1 (Nat.le_refl _)) hMl)
  clear hb1
  have hsz := size_txt key
  by_cases hlong : 100 < key.length
  · have hlg : decide ((key.length : Int) > 100) = true := decide_eq_true (by omega)
    go_wp2
    go_ret
    exact ⟨rfl, HB1.out⟩
  · have hlg : decide ((key.length : Int) > 100) = false := decide_eq_false (by omega)
    go_upto_region 5 with fail
    clear hlg
    go_upto_region 6 with (go_at_call 26; refine HCB.out.mono ?_; rintro e w2 ⟨b, b2, O, W, O2, W2, rfl, hbo⟩)
    have hlen := hbo.len
    have hz2 := hbo.below.size
    have HB2 := Lib.hid (HB1.out.trans (hbo.below.mono hz1))
    obtain ⟨mo, mw, mt, BD, TT, hdag⟩ := hbo.dag
    obtain ⟨vo, vw, vn, vm, FR, BR, href⟩ := hbo.ref
    have HD := Lib.hid hdag
    have HR := Lib.hid href
    have HIN := Lib.hid hbo.inv
    have HE1 := Lib.hid hbo.e1
    have hO2l : O2.length ≤ 30 := by
      have h1 := congrArg List.length hbo.e1
      rw [List.length_map, List.length_map] at h1
      omega
    have HCM := Lib.hid (members_any key b mo mw mt BD O W TT w2 hdag HIN.out (by omega) (HT.out.of_below HB2.out HT.out.2.2))
    clear hbo hdag href
    go_upto_region 7 with (go_at_call 27; refine HCM.out.mono ?_; rintro e w3 ⟨pK, cK, K, rfl, ho, hmv, hb3⟩)
    have hKl : (ascL K).length ≤ 30 := Nat.le_trans (ascL_len K) (Nat.le_trans hmv.len (by rw [List.length_map]; omega))
    have HMV := Lib.hid hmv
    obtain ⟨L, hLK⟩ : ∃ L, L = ascL K := ⟨_, rfl⟩
    rw [← hLK] at ho hKl
    rw [← hLK]
    have HST := Lib.hid (show L.Pairwise (· < ·) by rw [hLK]; exact ascL_strict K)
    have HLM := Lib.hid (show ∀ v ∈ L, ∃ e ∈ O2, e.o.d.kind = 1 ∧ e.o.d.key = key ∧ e.o.d.value = v from fun v hv => by
      rw [hLK, ascL_mem] at hv
      obtain ⟨e, he, hp, hve⟩ := HMV.out.real v hv
      obtain ⟨e3, h1, h2⟩ := ent_back HE1.out he
      rw [← h2] at hve
      have hp2 := pickO_one hp
      rw [← h2] at hp2
      exact ⟨e3, h1, hp2.1, hp2.2, hve⟩)
    have HSL := Lib.hid (Owns.srcOf (Owns.of ho))
    have HB23 := Lib.hid hb3
    have hz3 := hb3.size
    have hz2w := HB2.out.size
    clear ho hmv hb3 hLK
    go_upto_region 8 with fail
    go_loopw [27] (fun i wr => ∃ n : Nat, n ≤ L.length ∧ i = .int .i64 n ∧ Hid (Below w3.heap.size w3 wr)) (fun i _ => L.length - (intOf i).toNat)
    case atStart => exact ⟨0, by omega, rfl, Lib.hid (Below.refl _ _)⟩
    case round =>
      obtain ⟨n, hn1, rfl, HB⟩ := hrel
      have hzr := HB.out.size
      have HB2r := Lib.hid (HB23.out.trans (HB.out.mono hz3))
      by_cases hlt : n < L.length
      · obtain ⟨v, gx, ox, hx1, hxp, hx3, hx4⟩ := scs_at (HSL.out.below HB.out (Nat.le_refl _)) hlt
        subst hxp
        have HEn := Lib.hid hx1
        have HCR := Lib.hid (real_any 1 key v b2 vo vw vn vm FR BR O2 W2 wr (HR.out.under HB2r.out) (by omega) (HLM.out v (List.mem_of_getElem? hx1)))
        have hcx := hx4
        clear hx1 hx4
        go_upto_region 10 with fail
        clear hcx
        by_cases hn0 : n = 0
        · have hgt : decide ((n : Int) > 0) = false := by rw [hn0]; rfl
          go_wp2_with (go_at_call 28; refine HCR.out.mono ?_; rintro e w9 ⟨rfl, hb9⟩)
          clear hgt
          go_roundw
          case rel => exact ⟨n + 1, by omega, by go_num, Lib.hid (HB.out.trans (hb9.mono hzr))⟩
          case measure => simp [intOf] <;> omega
        · obtain ⟨k, rfl⟩ : ∃ k, n = k + 1 := ⟨n - 1, by omega⟩
          have hgt : decide (((k + 1 : Nat) : Int) > 0) = true := decide_eq_true (by omega)
          obtain ⟨u, gu, ou, hu1, hup, hu3, hu4⟩ := scs_at (HSL.out.below HB.out (Nat.le_refl _)) (show k < L.length by omega)
          simp only [Option.some.injEq, Addr.mk.injEq, and_true] at hup
          obtain ⟨rfl, rfl⟩ := hup
          have HCU := Lib.hid hu4
          have hlt2 : u < v := strict_lt HST.out hu1 HEn.out
          have hgeq := fun wz => run_geq_tx (P := Tryz.prog) 9 hlt2 wz
          have hwk : IntKind.i64.wrap (((k + 1 : Nat) : Int) - 1) = (k : Int) := by rw [show ((k + 1 : Nat) : Int) - 1 = (k : Int) by omega]; exact i64_nat k (by omega)
          have hwk2 : IntKind.i64.wrap (k : Int) = (k : Int) := i64_nat k (by omega)
          have hkl : (k : Int) < (L.length : Int) := by omega
          have hkl2 : k < L.length := by omega
          clear hu1 hu4 hn0
          go_wp2_with (go_at_call 28; refine HCR.out.mono ?_; rintro e w9 ⟨rfl, hb9⟩; have hcu : w9.cell? ⟨gx, ox + k, none⟩ = some (txt u) := (hb9.cell (p := ⟨gx, ox + k, none⟩) hx3).trans HCU.out)
          clear hgt hcu hwk hwk2 hkl hgeq
          go_roundw
          case rel => exact ⟨k + 1 + 1, by omega, by go_num, Lib.hid (HB.out.trans (hb9.mono hzr))⟩
          case measure => simp [intOf] <;> omega
      · obtain rfl : n = L.length := by omega
        have HBr := Lib.hid (HB2.out.trans (HB2r.out.mono hz2w))
        have HCV := Lib.hid (value_any key b mo mw mt BD O W TT wr (HD.out.under HB2r.out) HIN.out (by omega))
        obtain ⟨Z, hZ⟩ : ∃ Z, Z = (rowL (O.map E3.ent)).filter (pickO key [3]) := ⟨_, rfl⟩
        rw [← hZ] at HCV
        rcases lastV_cases Z with h0 | ⟨e, he, h0⟩
        · rw [h0] at HCV
          clear hZ h0
          go_wp2_with (go_at_call 29; refine HCV.out.mono ?_; rintro e w9 ⟨rfl, hb9⟩)
          go_ret
          exact ⟨rfl, HBr.out.trans (hb9.mono HBr.out.size)⟩
        · rw [h0] at HCV
          have hex : ∃ e3 ∈ O2, e3.o.d.kind = 3 ∧ e3.o.d.key = key ∧ e3.o.d.value = e.2.d.value := by
            rw [hZ] at he
            have hf := List.mem_filter.1 he
            obtain ⟨e3, h1, h2⟩ := ent_back HE1.out (rowL_mem.1 hf.1)
            have hp2 := pickO_one hf.2
            rw [← h2] at hp2
            exact ⟨e3, h1, hp2.1, hp2.2, by rw [h2]⟩
          obtain ⟨v, hv⟩ : ∃ v, v = e.2.d.value := ⟨_, rfl⟩
          rw [← hv] at HCV hex
          have HEX := Lib.hid hex
          clear hZ h0 hex he hv
          go_wp2_with (first
            | (go_at_call 29; refine HCV.out.mono ?_; rintro e w9 ⟨rfl, hb9⟩; have HCR := Lib.hid (real_any 3 key v b2 vo vw vn vm FR BR O2 W2 w9 (HR.out.under (HB2r.out.trans (hb9.mono HB2r.out.size))) (by omega) HEX.out))
            | (go_at_call 28; refine HCR.out.mono ?_; rintro e w10 ⟨rfl, hb10⟩))
          go_ret
          exact ⟨rfl, HBr.out.trans ((hb9.trans (hb10.mono hb9.size)).mono HBr.out.size)⟩
end Go.Proofs.YtfoifdhcelcgiaaGreatDoor
