/-
  ViewsRegisters, walked: Value and Registers answer what the document says, of all sets and keys; a nil set.
-/
import Derived.Test.YtfoifdhcelcgiaaGreatDoorVa
import Derived.Test.YtfoifdhcelcgiaaGreatDoorViewT
import Derived.Test.YtfoifdhcelcgiaaGreatDoorVb
import Derived.Test.YtfoifdhcelcgiaaGreatDoorTSame
namespace Go.Proofs.YtfoifdhcelcgiaaGreatDoor
open Go Go.RowKit

theorem src_1 (w : World) (t : TypeId) : Src (w.alloc (.cells #[.int .i64 3] t)) (some ⟨w.heap.size, 0, none⟩) ([3].map (Value.int .i64)) := ⟨fun j u hj => ⟨w.heap.size, 0, rfl, by
  rw [Nat.zero_add, World.cell?_alloc_new]
  simpa using hj⟩⟩
theorem src_123 (w : World) (t : TypeId) : Src (w.alloc (.cells #[.int .i64 1, .int .i64 2, .int .i64 3] t)) (some ⟨w.heap.size, 0, none⟩) ([1, 2, 3].map (Value.int .i64)) := ⟨fun j u hj => ⟨w.heap.size, 0, rfl, by
  rw [Nat.zero_add, World.cell?_alloc_new]
  simpa using hj⟩⟩
set_option maxRecDepth 100000 in
set_option maxHeartbeats 16000000 in
theorem viewsRegs_any (M : List MkV) (hM : ∀ m ∈ M, m.Ok) (p : Option Addr) (cap : Nat) (w : World) (hT : Tabs w) (hs : Src w p (mcs M)) (hps : ∀ m ∈ M, Src w m.p (pcs m.o.preds)) (hMl : M.length ≤ 1000000000) (key : List UInt8) (hkey : key.length < 1048577) :
    Calls Tryz.prog 7 #[.slice p M.length cap, txt key] w fun e w' => e = .returned (.bool true) ∧ Below w.heap.size w w' := by
  obtain ⟨is, his, hsz0, hsz1, hsz2⟩ := info_parts strInfo
  have HM := Lib.hid hM
  have HS := Lib.hid hs
  have HPS := Lib.hid hps
  have HT := Lib.hid hT
  clear hM hs hps hT
  go_enter Tryz.func7, Tryz.ntmps7
  go_upto_region 3 with (go_at_call 25; refine (alive12_any w HT.out).mono ?_; rintro e w1 ⟨rfl, hb1⟩)
  have hz1 := hb1.size
  have HB1 := Lib.hid hb1
  have HCB := Lib.hid (both12_any M HM.out p cap w1 (HT.out.of_below hb1 HT.out.2.2) (HS.out.below hb1 (Nat.le_refl _)) (fun m hm => (HPS.out m hm).below hb1 (Nat.le_refl _)) hMl)
  clear hb1
  have hsz := size_txt key
  by_cases hlong : 100 < key.length
  · have hlg : decide ((key.length : Int) > 100) = true := decide_eq_true (by omega)
    go_wp2
    go_ret
    exact ⟨rfl, HB1.out⟩
  · have hlg : decide ((key.length : Int) > 100) = false := decide_eq_false (by omega)
    go_upto_region 5 with fail
    clear hlg
    go_upto_region 6 with (go_at_call 26; refine HCB.out.mono ?_; rintro e w2 ⟨b, b2, O, W, O2, W2, rfl, hbo⟩)
    have hlen := hbo.len
    have hz2 := hbo.below.size
    have HB2 := Lib.hid (HB1.out.trans (hbo.below.mono hz1))
    obtain ⟨mo, mw, mt, BD, TT, hdag⟩ := hbo.dag
    obtain ⟨vo, vw, vn, vm, FR, BR, href⟩ := hbo.ref
    have HD := Lib.hid hdag
    have HR := Lib.hid href
    have HIN := Lib.hid hbo.inv
    have HE1 := Lib.hid hbo.e1
    have hO2l : O2.length ≤ 30 := by
      have h1 := congrArg List.length hbo.e1
      rw [List.length_map, List.length_map] at h1
      omega
    have HND2 := Lib.hid (show (namesOf (O2.map E3.ent)).Nodup by rw [HE1.out]; exact HIN.out.nd1)
    have HNM2 := Lib.hid (show ∀ e ∈ O2, e.n = nameB e.o from fun e he => HIN.out.named e.ent (List.mem_append.2 (.inl (by rw [← HE1.out]; exact List.mem_map.2 ⟨e, he, rfl⟩))))
    have HB2k := Lib.hid (show Below w2.heap.size w2 (w2.alloc (.cells #[.int .i64 1, .int .i64 2, .int .i64 3] 3)) from (Below.refl _ w2).alloc (Nat.le_refl _) _)
    have hck := rkeys_any [1, 2, 3] (some ⟨w2.heap.size, 0, none⟩) 3 b2 vo vw vn vm FR BR O2 W2 (w2.alloc (.cells #[.int .i64 1, .int .i64 2, .int .i64 3] 3)) (href.under HB2k.out) (by omega) (src_123 w2 _) (by simp)
    have hKl : (keysL (O2.map E3.ent) [1, 2, 3]).length ≤ 30 := Nat.le_trans (keysL_len _ _) (by rw [List.length_map]; omega)
    obtain ⟨K, hK⟩ : ∃ K, K = keysL (O2.map E3.ent) [1, 2, 3] := ⟨_, rfl⟩
    rw [← hK] at hck hKl
    have HCK := Lib.hid hck
    have hz2w := HB2.out.size
    clear hbo hdag href hK hck
    go_wp2_with fail
    refine HCK.out.mono ?_
    rintro e w3 ⟨pK, cK, rfl, hoK, hb3⟩
    have HB23 := Lib.hid (HB2k.out.trans (hb3.mono HB2k.out.size))
    have HOK := Lib.hid (hoK.down HB2k.out.size)
    have hz3 := HB23.out.size
    clear hoK hb3
    go_upto_region 7 with (at_builtin; refine wpList_append_G rfl _ _ 51 rfl w2.heap.size 9 is _ 1 16 Tryz.underlying51 his hsz0 hsz1 hsz2 (by rfl) (by omega) (.slice pK K.length cK) K.length (scs K) (by rfl) (HOK.out.alloc _) (some ⟨w3.heap.size, 0, none⟩) 1 1 (scs [key]) (by rfl) (by rfl) (src_new w3 (scs [key]) 9) (fun a e => by cases e; rfl) (scs_one _) (by unfold maxLen; omega) (by omega) (by rw [World.size_alloc]; omega) ?_; intro v4 w4 hown4 hg4 hs4; obtain ⟨p4, c4, hp4⟩ := hown4.form; subst hp4)
    have HB24 := Lib.hid (show Below w2.heap.size w2 w4 from (HB23.out.alloc hz3 (.cells #[txt key] 9)).grown hg4 (by rw [World.size_alloc]; omega) (fun k e => by have := (HOK.out.lt e).1; omega))
    obtain ⟨L, hL⟩ : ∃ L, L = K ++ [key] := ⟨_, rfl⟩
    have hLl : L.length = K.length + 1 := by rw [hL]; simp
    have HSL := Lib.hid (show Src w4 p4 (scs L) from by
      have h1 := Owns.srcOf hown4
      rw [hL]
      simpa [scs] using h1)
    rw [← hLl]
    rw [show ((K.length : Nat) : Int) + 1 = ((L.length : Nat) : Int) by rw [hLl]; simp]
    have hz24 := HB24.out.size
    have hLb : L.length ≤ 31 := by omega
    clear hown4 hg4 hs4 hL hLl
    go_loopw [32] (fun i wr => ∃ n : Nat, n ≤ L.length ∧ i = .int .i64 n ∧ Hid (Below w4.heap.size w4 wr)) (fun i _ => L.length - (intOf i).toNat)
    case atStart => exact ⟨0, by omega, rfl, Lib.hid (Below.refl _ _)⟩
    case round =>
      obtain ⟨n, hn1, rfl, HB⟩ := hrel
      have hzr := HB.out.size
      have HB2r := Lib.hid (HB24.out.trans (HB.out.mono hz24))
      have HBwr := Lib.hid (HB2.out.trans (HB2r.out.mono hz2w))
      by_cases hlt : n < L.length
      · obtain ⟨k, gx, ox, hx1, hxp, hx3, hx4⟩ := scs_at (HSL.out.below HB.out (Nat.le_refl _)) hlt
        subst hxp
        have hcx := hx4
        have hcv := value_any k b mo mw mt BD O W TT wr (HD.out.under HB2r.out) HIN.out (by omega)
        have hcr := fun (wz : World) (hb : Below wr.heap.size wr wz) => rvalue_any k b2 vo vw vn vm FR BR O2 W2 wz (HR.out.under (HB2r.out.trans (hb.mono HB2r.out.size))) HND2.out HNM2.out (by omega) (HT.out.of_below (HBwr.out.trans (hb.mono HBwr.out.size)) HT.out.2.2)
        rw [HE1.out] at hcr
        obtain ⟨vv, hvv⟩ : ∃ v, v = (lastV ((rowL (O.map E3.ent)).filter (pickO k [3]))).1 := ⟨_, rfl⟩
        obtain ⟨bb, hbb⟩ : ∃ v, v = (lastV ((rowL (O.map E3.ent)).filter (pickO k [3]))).2 := ⟨_, rfl⟩
        rw [← hvv, ← hbb] at hcv
        simp only [← hvv, ← hbb] at hcr
        have HCV := Lib.hid hcv
        have HCR := Lib.hid hcr
        clear hx1 hx4 hcv hcr hvv hbb
        go_upto_region 9 with fail
        clear hcx
        go_upto_region 11 with (first
          | (go_at_call 29; refine HCV.out.mono ?_; rintro e w5 ⟨rfl, hb5⟩)
          | (go_at_call 30; refine (HCR.out w5 hb5).mono ?_; rintro e w6 ⟨rfl, hb6⟩))
        have HB6 := Lib.hid (HB.out.trans ((hb5.trans (hb6.mono hb5.size)).mono hzr))
        clear hb5 hb6
        cases bb with
        | true =>
          go_wp2
          go_roundw
          case rel => exact ⟨n + 1, by omega, by go_num, HB6⟩
          case measure => simp [intOf] <;> omega
        | false =>
          go_wp2
          go_roundw
          case rel => exact ⟨n + 1, by omega, by go_num, HB6⟩
          case measure => simp [intOf] <;> omega
      · obtain rfl : n = L.length := by omega
        have HCG := Lib.hid (fun (wz : World) (hb : Below wr.heap.size wr wz) => registers_any b mo mw mt BD O W TT wz (HD.out.under (HB2r.out.trans (hb.mono HB2r.out.size))) HIN.out (by omega))
        obtain ⟨K3, hK3⟩ : ∃ K, K = keysL (O.map E3.ent) [3] := ⟨_, rfl⟩
        have hK3l : K3.length ≤ 30 := by rw [hK3]; exact Nat.le_trans (keysL_len _ _) (by rw [List.length_map]; omega)
        have HCR := Lib.hid (fun (wz : World) (hb : Below wr.heap.size wr wz) (pk : Option Addr) (hs : Src wz pk ([3].map (Value.int .i64))) => rkeys_any [3] pk 1 b2 vo vw vn vm FR BR O2 W2 wz (HR.out.under (HB2r.out.trans (hb.mono HB2r.out.size))) (by omega) hs (by simp))
        go_upto_region 15 with (go_at_call 29; refine (value_nil key wr).mono ?_; rintro e w5 ⟨rfl, hb5⟩)
        have hg := HCG.out w5 hb5
        rw [← hK3] at hg
        have HG := Lib.hid hg
        have hz5 := hb5.size
        clear hg
        go_wp2_with fail
        refine HG.out.mono ?_
        rintro e w6 ⟨p6, c6, rfl, ho6, hb6⟩
        have hz6 := hb6.size
        have HB56 := Lib.hid (hb5.trans (hb6.mono hz5))
        have HS6 := Lib.hid (Owns.srcOf (Owns.of ho6))
        have hb7 : Below w6.heap.size w6 (w6.alloc (.cells #[.int .i64 3] 3)) := (Below.refl _ w6).alloc (Nat.le_refl _) _
        have hr := HCR.out (w6.alloc (.cells #[.int .i64 3] 3)) (HB56.out.trans (hb7.mono HB56.out.size)) (some ⟨w6.heap.size, 0, none⟩) (src_1 w6 _)
        rw [HE1.out, ← hK3] at hr
        have HR7 := Lib.hid hr
        have HB7 := Lib.hid hb7
        clear hr hK3 ho6 hb6 hb7 hb5
        go_wp2_with fail
        refine HR7.out.mono ?_
        rintro e w8 ⟨p8, c8, rfl, ho8, hb8⟩
        have HB68 := Lib.hid (HB7.out.trans (hb8.mono HB7.out.size))
        have HSM := Lib.hid (tsame_any K3 p6 p8 c6 c8 w8 (HS6.out.below HB68.out (Nat.le_refl _)) (Owns.srcOf ho8) (by omega))
        clear ho8 hb8
        go_wp2_with fail
        refine HSM.out.mono ?_
        rintro e w9 ⟨rfl, hb9⟩
        have HB9 := Lib.hid (HB68.out.trans (hb9.mono HB68.out.size))
        clear hb9
        go_wp2_with fail
        refine (registers_nil w9).mono ?_
        rintro e w10 ⟨⟨p10, c10, rfl⟩, hb10⟩
        have HBF := Lib.hid (HB9.out.trans (hb10.mono HB9.out.size))
        clear hb10
        go_wp2
        go_ret
        exact ⟨rfl, HBwr.out.trans ((HB56.out.trans (HBF.out.mono HB56.out.size)).mono HBwr.out.size)⟩
end Go.Proofs.YtfoifdhcelcgiaaGreatDoor
