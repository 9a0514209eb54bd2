/-
  tribunalref11.Rising: texts, rising, each once.
-/
import Derived.Test.YtfoifdhcelcgiaaGreatDoorRisP
import Derived.Test.YtfoifdhcelcgiaaGreatDoorTSame
import Derived.Test.YtfoifdhcelcgiaaGreatDoorJi
import Derived.Test.YtfoifdhcelcgiaaGreatDoorKeepP
namespace Go.Proofs.YtfoifdhcelcgiaaGreatDoor
open Go Go.RowKit Go.Sort

theorem less_tx (x y : Tx) : Op.bytesLess x y = decide (x < y) := bytesLess_eq x y
theorem beq_tx (x y : Tx) : (x == y) = decide (x = y) := by
  by_cases h : x = y
  · subst h; simp
  · simp [h]
set_option maxRecDepth 100000 in
set_option maxHeartbeats 16000000 in
theorem ristx_any (T : List Tx) (p : Option Addr) (c : Nat) (w : World) (hs : Src w p (scs T)) (hT : T.length ≤ 1000000) :
    Calls Tryz.prog 24 #[.slice p T.length c] w fun e w' => ∃ v, e = .returned v ∧ Owns w' w.heap.size 9 1 v (ascL T).length (scs (ascL T)) ∧ Below w.heap.size w w' := by
  obtain ⟨is, his, hsz0, hsz1, hsz2⟩ := info_parts strInfo
  have HS := Lib.hid hs
  clear hs
  go_enter Tryz.func24, Tryz.ntmps24
  go_upto_region 3 with fail
  go_loopw [3, 10] (fun v x wr => ∃ (n : Nat) (L : List Tx), n ≤ T.length ∧ x = .int .i64 n ∧ L.length ≤ n ∧ Hid (L = ascL (T.take n)) ∧ Hid (Owns wr w.heap.size 9 1 v L.length (scs L)) ∧ Hid (Below w.heap.size w wr)) (fun _ x _ => T.length - (intOf x).toNat)
  case atStart => exact ⟨0, [], by omega, rfl, by simp, Lib.hid (List.eq_nil_of_length_eq_zero (Nat.le_zero.1 (by have := ascL_len (T.take 0); simpa using this))).symm, Lib.hid (Owns.nil _ _ _ _), Lib.hid (Below.refl _ _)⟩
  case round =>
    obtain ⟨n, L, hn1, rfl, hLn, HLd, HO, HB⟩ := hrel
    have hzr := HB.out.size
    by_cases hlt : n < T.length
    · obtain ⟨s, gx, ox, hx1, hxp, hx3, hx4⟩ := scs_at (HS.out.below HB.out (Nat.le_refl _)) hlt
      subst hxp
      have HTK := Lib.hid (show T.take (n + 1) = T.take n ++ [s] by rw [List.take_add_one, hx1]; rfl)
      obtain ⟨pL, capL, hpL⟩ := HO.out.form
      subst hpL
      have hcap := HO.out.cap_le
      have HSL := Lib.hid HO.out.srcOf
      obtain ⟨wP, hwP⟩ : ∃ wP, wP = wr := ⟨_, rfl⟩
      have HC := Lib.hid hx4
      clear hx1 hx4
      subst hwP
      have hc := HC.out
      go_upto_region 5 with fail
      clear hc
      go_upto_region 6 with fail
      go_loopw [6] (fun x wz => ∃ k : Nat, k ≤ L.length ∧ x = .int .i64 k ∧ Hid (∀ (j : Nat) (x : Tx), j < k → L[j]? = some x → x < s) ∧ wz = wP) (fun x _ => L.length - (intOf x).toNat)
      case atStart => exact ⟨0, by omega, rfl, Lib.hid (fun j x hj => absurd hj (by omega)), rfl⟩
      case round =>
        obtain ⟨k, hk, rfl, HALL, rfl⟩ := hrel
        by_cases hlk : k < L.length
        · obtain ⟨y, gL, oL, hy1, hyp, hy3, hy4⟩ := scs_at HSL.out hlk
          subst hyp
          have HY1 := Lib.hid hy1
          have hdd : decide ((k : Int) < (L.length : Int)) = true := decide_eq_true (by omega)
          have hls := less_tx y s
          clear hy1
          by_cases hlt3 : y < s
          · rw [decide_eq_true hlt3] at hls
            go_wp2
            go_roundw
            case rel =>
              refine ⟨k + 1, by omega, by go_num, Lib.hid fun j x hj hx => ?_, by simp⟩
              rcases Nat.lt_or_eq_of_le (Nat.le_of_lt_succ hj) with h | h
              · exact HALL.out j x h hx
              · subst h
                obtain rfl := Option.some.inj (HY1.out.symm.trans hx)
                exact hlt3
            case measure => simp [intOf] <;> omega
          · rw [decide_eq_false hlt3] at hls
            have hbe := beq_tx y s
            by_cases heq : y = s
            · rw [decide_eq_true heq] at hbe
              have HEQ := Lib.hid heq
              clear heq
              go_wp2
              exact ⟨⟨n + 1, L, by omega, by go_num, by omega, Lib.hid (by rw [HTK.out]; exact (ris_has HLd.out (by rw [← HEQ.out]; exact HY1.out)).symm), HO, HB⟩, by simp [intOf] <;> omega⟩
            · rw [decide_eq_false heq] at hbe
              go_upto_region 9 with fail
              have HINS := Lib.hid (show ascL (T.take n ++ [s]) = L.take k ++ [s] ++ L.drop k from ris_put HLd.out HALL.out (fun x hx => by obtain rfl := Option.some.inj (HY1.out.symm.trans hx); exact tx_lt_of (List.not_lt.1 hlt3) (fun e => heq e.symm)))
              have hSZ : (Tryz.prog.info? 9).map (·.size) = some 1 := by rw [his]; simp [hsz1]
              have HSZ := Lib.hid hSZ
              clear hSZ
              have hcap1 := hcap.1
              have HSPL := Lib.hid HO.out.spot
              refine wp_region_list ?_
              refine wpList_buildNil rfl 51 rfl 9 1 Tryz.underlying51 HSZ.out ?_
              obtain ⟨wE, hwE⟩ : ∃ wE, wE = wr.alloc (.cells #[] 9) := ⟨_, rfl⟩
              rw [← hwE]
              have hbE : Below wr.heap.size wr wE := by rw [hwE]; exact (Below.refl _ wr).alloc (Nat.le_refl _) _
              have HOE := Lib.hid (show Owns wE w.heap.size 9 1 (.slice (some ⟨wr.heap.size, 0, none⟩) 0 0) 0 [] by rw [hwE]; exact Owns.newNil wr _ _ _ hzr)
              obtain ⟨gE, hgE⟩ : ∃ g, g = wr.heap.size := ⟨_, rfl⟩
              rw [← hgE] at HOE ⊢
              have hzE : gE < wE.heap.size := by rw [hwE, hgE]; simp
              have hgEr : wr.heap.size ≤ gE := by omega
              have HBE := Lib.hid hbE
              have HSLE := Lib.hid (HSL.out.below hbE (Nat.le_refl _)).at_
              have HLS := Lib.hid (show (scs L).length = L.length * 1 by rw [scs_length, Nat.mul_one])
              have hLk : k ≤ L.length := by omega
              clear hwE hbE hgE
              go_simp
              go_upto_region 10 with (first
                | (refine wpList_slice_lo (by rfl) 51 _ _ (by rfl) 9 1 Tryz.underlying51 HSZ.out _ L.length capL (k) .i64 (by rfl) (by rfl) hLk hcap1 (scs L) HLS.out HSLE.out HSPL.out ?_
                   intro A hA1 hA2 hA3
                   have W6 := Lib.hid hA1
                   have W7 := Lib.hid hA2
                   clear hA1 hA2 hA3)
                | (at_builtin; refine wpList_append_G rfl _ _ 51 rfl w.heap.size 9 is _ 1 16 Tryz.underlying51 his hsz0 hsz1 hsz2 (by rfl) (by omega) (.slice (some ⟨gE, 0, none⟩) 0 0) 0 [] (by rfl) HOE.out A (L.length - k) (capL - k) ((scs L).drop (k * 1)) (by rfl) (by rw [List.length_drop, HLS.out]; omega) W6.out W7.out (fun u hu => scs_one L u (List.mem_of_mem_drop hu)) (by unfold maxLen; omega) (by omega) (by omega) ?_
                   intro v3 w3 hown3 hg3 hs3
                   obtain ⟨p3, c3, hv3⟩ := hown3.form
                   subst hv3))
              rw [Nat.zero_add, List.nil_append] at hown3
              have hb3 : Below wr.heap.size wr w3 := HBE.out.grown hg3 (by have := HBE.out.size; omega) (fun r e => by have e1 : gE = r := Option.some.inj e; omega)
              have hz3 := hb3.size
              have HO3 := Lib.hid hown3
              have HB3 := Lib.hid hb3
              have hb4 : Below w3.heap.size w3 (w3.alloc (.cells #[txt s] 9)) := (Below.refl _ w3).alloc (Nat.le_refl _) _
              have HS4 := Lib.hid (HSL.out.below (hb3.trans (hb4.mono hz3)) (Nat.le_refl _)).at_
              have HN4 := Lib.hid (show ∀ (j : Nat) (u : Value), [txt s][j]? = some u → (w3.alloc (.cells #[txt s] 9)).cell? ((⟨w3.heap.size, 0, none⟩ : Addr).add j) = some u from fun j u hj => by
                cases j with
                | zero => simpa [Addr.add] using hj
                | succ j => simp at hj)
              have HB4 := Lib.hid hb4
              have hz4 := hb4.size
              clear hown3 hg3 hs3 hb3 hb4
              go_upto_region 11 with (first
                | (refine wpList_slice_full rfl 51 _ _ _ rfl 9 1 Tryz.underlying51 HSZ.out _ L.length capL (k) .i64 .i64 (by rfl) (by rfl) (by rfl) (by omega) HSPL.out ?_)
                | (at_builtin
                   refine wpList_plain rfl fun _ hK => ?_
                   refine wp_append_full _ _ 51 rfl w.heap.size 9 is _ 1 16 Tryz.underlying51 his hsz0 hsz1 hsz2 (by rfl) (by omega) _ (k) (by rfl) ((scs L).take (k * 1)) (by rw [List.length_take, HLS.out]; omega) (HS4.out.take _) HSPL.out ⟨w3.heap.size, 0, none⟩ 1 1 (by rfl) [txt s] (by rfl) HN4.out (fun u hu => by obtain rfl := List.mem_singleton.1 hu; rfl) (by omega) (by unfold maxLen; omega) (by omega) (by omega) ?_
                   intro v5 w5 hown5 hg5 hat5
                   have hb5 : Below w3.heap.size w3 w5 := HB4.out.grown hg5 (by omega) (fun r e => by cases e)
                   have HO5 := Lib.hid (Owns.of hown5)
                   have HB5 := Lib.hid hb5
                   have HAT5 := Lib.hid hat5
                   have HS5 := Lib.hid (HO3.out.srcOf.below hb5 (Nat.le_refl _)).at_
                   have hz5 := hb5.size
                   clear hown5 hg5 hat5 hb5
                   refine hK _ _ ?_)
                | (at_builtin; refine wpList_append_G rfl _ _ 51 rfl w.heap.size 9 is _ 1 16 Tryz.underlying51 his hsz0 hsz1 hsz2 (by rfl) (by omega) v5 (k + 1) ((scs L).take (k * 1) ++ [txt s]) (by rfl) HO5.out p3 (L.length - k) c3 ((scs L).drop (k * 1)) (by rfl) (by rw [List.length_drop, HLS.out]; omega) HS5.out HO3.out.spot (fun u hu => scs_one L u (List.mem_of_mem_drop hu)) (by unfold maxLen; omega) (by omega) (by omega) ?_
                   intro v6 w6 hown6 hg6 hs6))
              have hb6 : Below w3.heap.size w3 w6 := HB5.out.grown hg6 (by have := HB5.out.size; omega) (fun r e => by rw [HAT5.out] at e; have e' := Option.some.inj e; omega)
              have hfin : Owns w6 w.heap.size 9 1 v6 (ascL (T.take (n + 1))).length (scs (ascL (T.take (n + 1)))) := by
                rw [HTK.out, HINS.out]
                have e1 : (L.take (k) ++ [s] ++ L.drop (k)).length = k + 1 + (L.length - k) := by
                  simp only [List.length_append, List.length_take, List.length_drop, List.length_singleton]
                  omega
                have e2 : scs (L.take (k) ++ [s] ++ L.drop (k)) = (scs L).take (k * 1) ++ [txt s] ++ (scs L).drop (k * 1) := by
                  unfold scs
                  rw [List.map_append, List.map_append, List.map_take, List.map_drop, Nat.mul_one]
                  rfl
                rw [e1, e2]
                exact hown6
              have hlen : (ascL (T.take (n + 1))).length ≤ n + 1 := Nat.le_trans (ascL_len _) (by rw [List.length_take]; omega)
              have HFIN := Lib.hid hfin
              have HB6 := Lib.hid (HB.out.trans ((HB3.out.trans (hb6.mono HB3.out.size)).mono hzr))
              clear hfin hown6 hg6 hs6 hb6
              go_wp2
              exact ⟨⟨n + 1, _, by omega, by go_num, hlen, Lib.hid rfl, HFIN, HB6⟩, by simp [intOf] <;> omega⟩
        · obtain rfl : k = L.length := by omega
          have hdd : decide ((L.length : Int) < (L.length : Int)) = false := by simp
          go_upto_region 9 with fail
          have HINS := Lib.hid (show ascL (T.take n ++ [s]) = L.take L.length ++ [s] ++ L.drop L.length from ris_put HLd.out HALL.out (fun x hx => by simp at hx))
          have hSZ : (Tryz.prog.info? 9).map (·.size) = some 1 := by rw [his]; simp [hsz1]
          have HSZ := Lib.hid hSZ
          clear hSZ
          have hcap1 := hcap.1
          have HSPL := Lib.hid HO.out.spot
          refine wp_region_list ?_
          refine wpList_buildNil rfl 51 rfl 9 1 Tryz.underlying51 HSZ.out ?_
          obtain ⟨wE, hwE⟩ : ∃ wE, wE = wr.alloc (.cells #[] 9) := ⟨_, rfl⟩
          rw [← hwE]
          have hbE : Below wr.heap.size wr wE := by rw [hwE]; exact (Below.refl _ wr).alloc (Nat.le_refl _) _
          have HOE := Lib.hid (show Owns wE w.heap.size 9 1 (.slice (some ⟨wr.heap.size, 0, none⟩) 0 0) 0 [] by rw [hwE]; exact Owns.newNil wr _ _ _ hzr)
          obtain ⟨gE, hgE⟩ : ∃ g, g = wr.heap.size := ⟨_, rfl⟩
          rw [← hgE] at HOE ⊢
          have hzE : gE < wE.heap.size := by rw [hwE, hgE]; simp
          have hgEr : wr.heap.size ≤ gE := by omega
          have HBE := Lib.hid hbE
          have HSLE := Lib.hid (HSL.out.below hbE (Nat.le_refl _)).at_
          have HLS := Lib.hid (show (scs L).length = L.length * 1 by rw [scs_length, Nat.mul_one])
          have hLk : L.length ≤ L.length := by omega
          clear hwE hbE hgE
          go_simp
          go_upto_region 10 with (first
            | (refine wpList_slice_lo (by rfl) 51 _ _ (by rfl) 9 1 Tryz.underlying51 HSZ.out _ L.length capL (L.length) .i64 (by rfl) (by rfl) hLk hcap1 (scs L) HLS.out HSLE.out HSPL.out ?_
               intro A hA1 hA2 hA3
               have W6 := Lib.hid hA1
               have W7 := Lib.hid hA2
               clear hA1 hA2 hA3)
            | (at_builtin; refine wpList_append_G rfl _ _ 51 rfl w.heap.size 9 is _ 1 16 Tryz.underlying51 his hsz0 hsz1 hsz2 (by rfl) (by omega) (.slice (some ⟨gE, 0, none⟩) 0 0) 0 [] (by rfl) HOE.out A (L.length - L.length) (capL - L.length) ((scs L).drop (L.length * 1)) (by rfl) (by rw [List.length_drop, HLS.out]; omega) W6.out W7.out (fun u hu => scs_one L u (List.mem_of_mem_drop hu)) (by unfold maxLen; omega) (by omega) (by omega) ?_
               intro v3 w3 hown3 hg3 hs3
               obtain ⟨p3, c3, hv3⟩ := hown3.form
               subst hv3))
          rw [Nat.zero_add, List.nil_append] at hown3
          have hb3 : Below wr.heap.size wr w3 := HBE.out.grown hg3 (by have := HBE.out.size; omega) (fun r e => by have e1 : gE = r := Option.some.inj e; omega)
          have hz3 := hb3.size
          have HO3 := Lib.hid hown3
          have HB3 := Lib.hid hb3
          have hb4 : Below w3.heap.size w3 (w3.alloc (.cells #[txt s] 9)) := (Below.refl _ w3).alloc (Nat.le_refl _) _
          have HS4 := Lib.hid (HSL.out.below (hb3.trans (hb4.mono hz3)) (Nat.le_refl _)).at_
          have HN4 := Lib.hid (show ∀ (j : Nat) (u : Value), [txt s][j]? = some u → (w3.alloc (.cells #[txt s] 9)).cell? ((⟨w3.heap.size, 0, none⟩ : Addr).add j) = some u from fun j u hj => by
            cases j with
            | zero => simpa [Addr.add] using hj
            | succ j => simp at hj)
          have HB4 := Lib.hid hb4
          have hz4 := hb4.size
          clear hown3 hg3 hs3 hb3 hb4
          go_upto_region 11 with (first
            | (refine wpList_slice_full rfl 51 _ _ _ rfl 9 1 Tryz.underlying51 HSZ.out _ L.length capL (L.length) .i64 .i64 (by rfl) (by rfl) (by rfl) (by omega) HSPL.out ?_)
            | (at_builtin
               refine wpList_plain rfl fun _ hK => ?_
               refine wp_append_full _ _ 51 rfl w.heap.size 9 is _ 1 16 Tryz.underlying51 his hsz0 hsz1 hsz2 (by rfl) (by omega) _ (L.length) (by rfl) ((scs L).take (L.length * 1)) (by rw [List.length_take, HLS.out]; omega) (HS4.out.take _) HSPL.out ⟨w3.heap.size, 0, none⟩ 1 1 (by rfl) [txt s] (by rfl) HN4.out (fun u hu => by obtain rfl := List.mem_singleton.1 hu; rfl) (by omega) (by unfold maxLen; omega) (by omega) (by omega) ?_
               intro v5 w5 hown5 hg5 hat5
               have hb5 : Below w3.heap.size w3 w5 := HB4.out.grown hg5 (by omega) (fun r e => by cases e)
               have HO5 := Lib.hid (Owns.of hown5)
               have HB5 := Lib.hid hb5
               have HAT5 := Lib.hid hat5
               have HS5 := Lib.hid (HO3.out.srcOf.below hb5 (Nat.le_refl _)).at_
               have hz5 := hb5.size
               clear hown5 hg5 hat5 hb5
               refine hK _ _ ?_)
            | (at_builtin; refine wpList_append_G rfl _ _ 51 rfl w.heap.size 9 is _ 1 16 Tryz.underlying51 his hsz0 hsz1 hsz2 (by rfl) (by omega) v5 (L.length + 1) ((scs L).take (L.length * 1) ++ [txt s]) (by rfl) HO5.out p3 (0) c3 ((scs L).drop (L.length * 1)) (by rfl) (by rw [List.length_drop, HLS.out]; omega) HS5.out HO3.out.spot (fun u hu => scs_one L u (List.mem_of_mem_drop hu)) (by unfold maxLen; omega) (by omega) (by omega) ?_
               intro v6 w6 hown6 hg6 hs6))
          have hb6 : Below w3.heap.size w3 w6 := HB5.out.grown hg6 (by have := HB5.out.size; omega) (fun r e => by rw [HAT5.out] at e; have e' := Option.some.inj e; omega)
          have hfin : Owns w6 w.heap.size 9 1 v6 (ascL (T.take (n + 1))).length (scs (ascL (T.take (n + 1)))) := by
            rw [HTK.out, HINS.out]
            have e1 : (L.take (L.length) ++ [s] ++ L.drop (L.length)).length = L.length + 1 + (0) := by
              simp only [List.length_append, List.length_take, List.length_drop, List.length_singleton]
              omega
            have e2 : scs (L.take (L.length) ++ [s] ++ L.drop (L.length)) = (scs L).take (L.length * 1) ++ [txt s] ++ (scs L).drop (L.length * 1) := by
              unfold scs
              rw [List.map_append, List.map_append, List.map_take, List.map_drop, Nat.mul_one]
              rfl
            rw [e1, e2]
            exact hown6
          have hlen : (ascL (T.take (n + 1))).length ≤ n + 1 := Nat.le_trans (ascL_len _) (by rw [List.length_take]; omega)
          have HFIN := Lib.hid hfin
          have HB6 := Lib.hid (HB.out.trans ((HB3.out.trans (hb6.mono HB3.out.size)).mono hzr))
          clear hfin hown6 hg6 hs6 hb6
          go_wp2
          exact ⟨⟨n + 1, _, by omega, by go_num, hlen, Lib.hid rfl, HFIN, HB6⟩, by simp [intOf] <;> omega⟩
    · obtain rfl : n = T.length := by omega
      go_wp2
      go_ret
      have hf : ascL T = L := by rw [HLd.out, List.take_length]
      rw [hf]
      exact ⟨_, rfl, HO.out, HB.out⟩
end Go.Proofs.YtfoifdhcelcgiaaGreatDoor
