/-
  Parts of one kind, put together.
-/
import Derived.Test.YtfoifdhcelcgiaaGreatDoorLineOf
import Derived.Test.YtfoifdhcelcgiaaGreatDoorJn
import Derived.Test.YtfoifdhcelcgiaaGreatDoorVa
import Derived.Test.YtfoifdhcelcgiaaGreatDoorRisT
import Derived.Test.YtfoifdhcelcgiaaGreatDoorLineK
import Derived.Test.YtfoifdhcelcgiaaGreatDoorLineB
import Derived.Test.YtfoifdhcelcgiaaGreatDoorPartP
/- The rows of a nil set: line.Order, Row, Of, Keys, and views.Value, Registers. -/
namespace Go.Proofs.YtfoifdhcelcgiaaGreatDoor
open Go Go.RowKit Go.Shelf
open Go.Lib (compact)

set_option maxRecDepth 100000 in
set_option maxHeartbeats 4000000 in
theorem order_nil (w : World) : Calls Tryz.prog 10 #[.pointer none] w fun e w' => e = .returned (.slice none 0 0) ∧ Below w.heap.size w w' := by
  have hmm := @run_makeMap Tryz.prog
  go_enter Tryz.func10, Tryz.ntmps10
  go_upto_region 2 with fail
  clear hmm
  obtain ⟨mD, hmD⟩ : ∃ k, k = w.heap.size := ⟨_, rfl⟩
  obtain ⟨m1, hm1⟩ : ∃ k, k = w.heap.size + 1 := ⟨_, rfl⟩
  obtain ⟨w1, hw1⟩ : ∃ w1, w1 = (w.alloc (.map #[] 0)).alloc (.cells #[.map (some mD)] 70) := ⟨_, rfl⟩
  have hb1 : Below w.heap.size w w1 := by rw [hw1]; exact ((Below.refl _ w).alloc (Nat.le_refl _) _).alloc (by simp) _
  rw [← hm1, ← hmD, ← hw1]
  clear hw1 hm1 hmD
  go_upto_region 3 with (go_at_call 37; refine (dnames_nil w1).mono ?_; rintro e w2 ⟨rfl, rfl⟩)
  have hs := AnyF.slices_SortFunc_none Tryz.sortId none 0 (.func (.func 40) #[] #[.pointer (some ⟨m1, 0, none⟩)]) w2
  change Calls Tryz.prog 39 _ _ _ at hs
  have HS := Lib.hid hs
  clear hs
  go_wp2_with fail
  go_loopw [14] (fun i wr => i = .int .i64 0 ∧ wr = w2) (fun _ _ => 0)
  case atStart => exact ⟨rfl, rfl⟩
  case round =>
    obtain ⟨rfl, rfl⟩ := hrel
    go_wp2_with (go_at_call 39; refine HS.out.mono ?_; rintro e w' ⟨rfl, rfl⟩)
    go_ret
    exact ⟨rfl, hb1⟩
set_option maxRecDepth 100000 in
theorem row_nil (w : World) : Calls Tryz.prog 16 #[.pointer none] w fun e w' => e = .returned (.slice none 0 0) ∧ Below w.heap.size w w' := by
  go_enter Tryz.func16, Tryz.ntmps16
  go_upto_region 3 with (go_at_call 10; refine (order_nil w).mono ?_; rintro e w2 ⟨rfl, hb2⟩)
  go_loopw [3, 11] (fun v i wr => v = .slice none 0 0 ∧ i = .int .i64 0 ∧ wr = w2) (fun _ _ _ => 0)
  case atStart => exact ⟨rfl, rfl, rfl⟩
  case round =>
    obtain ⟨rfl, rfl, rfl⟩ := hrel
    go_wp2
    go_ret
    exact ⟨rfl, hb2⟩
set_option maxRecDepth 100000 in
theorem of_nil (key : Tx) (p : Option Addr) (n c : Nat) (w : World) : Calls Tryz.prog 18 #[.pointer none, txt key, .slice p n c] w fun e w' => e = .returned (.slice none 0 0) ∧ Below w.heap.size w w' := by
  obtain ⟨w2, hw2⟩ : ∃ w2, w2 = (w.alloc (.cells #[txt key] 9)).alloc (.cells #[.slice p n c] 39) := ⟨_, rfl⟩
  have hb2 : Below w.heap.size w w2 := by rw [hw2]; exact ((Below.refl _ w).alloc (Nat.le_refl _) _).alloc (by simp) _
  go_enter Tryz.func18, Tryz.ntmps18
  go_upto_region 1 with fail
  rw [← hw2]
  clear hw2
  go_wp2_with (first
    | (go_at_call 16; refine (row_nil w2).mono ?_; rintro e w3 ⟨rfl, hb3⟩)
    | (go_at_call 47; refine (opdel_nil 0 48 #[.pointer (some ⟨w.heap.size, 0, none⟩), .pointer (some ⟨w.heap.size + 1, 0, none⟩)] w3).mono ?_; rintro e w4 ⟨rfl, rfl⟩))
  go_ret
  exact ⟨rfl, hb2.trans (hb3.mono hb2.size)⟩
set_option maxRecDepth 100000 in
theorem keys_nil (p : Option Addr) (n c : Nat) (w : World) : Calls Tryz.prog 21 #[.pointer none, .slice p n c] w fun e w' => (∃ p c, e = .returned (.slice p 0 c)) ∧ Below w.heap.size w w' := by
  go_enter Tryz.func21, Tryz.ntmps21
  go_upto_region 3 with (go_at_call 16; refine (row_nil w).mono ?_; rintro e w2 ⟨rfl, hb2⟩)
  go_loopw [5, 11] (fun v i wr => v = .slice none 0 0 ∧ i = .int .i64 0 ∧ wr = w2) (fun _ _ _ => 0)
  case atStart => exact ⟨rfl, rfl, rfl⟩
  case round =>
    obtain ⟨rfl, rfl, rfl⟩ := hrel
    have hsn := Any.slices_Sort_string_none Tryz.sortStr none 0 wr
    have hcn := Any.slices_Compact_string_empty Tryz.compactStr none 0 wr
    change Calls Tryz.prog 51 _ _ _ at hsn
    change Calls Tryz.prog 52 _ _ _ at hcn
    have HSN := Lib.hid hsn
    have HCN := Lib.hid hcn
    clear hsn hcn
    go_wp2_with (first
      | (go_at_call 51; refine HSN.out.mono ?_; rintro e w3 ⟨rfl, rfl⟩)
      | (go_at_call 52; refine HCN.out.mono ?_; rintro e w4 ⟨rfl, rfl⟩))
    go_ret
    exact ⟨⟨_, _, rfl⟩, hb2⟩
set_option maxRecDepth 100000 in
theorem value_nil (key : Tx) (w : World) : Calls Tryz.prog 29 #[.pointer none, txt key] w fun e w' => e = .returned (.tuple #[txt [], .bool false]) ∧ Below w.heap.size w w' := by
  have hb1 : Below w.heap.size w (w.alloc (.cells #[.int .i64 3] 3)) := (Below.refl _ w).alloc (Nat.le_refl _) _
  go_enter Tryz.func29, Tryz.ntmps29
  go_wp2_with (go_at_call 18; refine (of_nil key (some ⟨w.heap.size, 0, none⟩) 1 1 _).mono ?_; rintro e w3 ⟨rfl, hb3⟩)
  go_ret2
  exact ⟨rfl, hb1.trans (hb3.mono hb1.size)⟩
set_option maxRecDepth 100000 in
theorem registers_nil (w : World) : Calls Tryz.prog 31 #[.pointer none] w fun e w' => (∃ p c, e = .returned (.slice p 0 c)) ∧ Below w.heap.size w w' := by
  have hb1 : Below w.heap.size w (w.alloc (.cells #[.int .i64 3] 3)) := (Below.refl _ w).alloc (Nat.le_refl _) _
  go_enter Tryz.func31, Tryz.ntmps31
  go_wp2_with (go_at_call 21; refine (keys_nil (some ⟨w.heap.size, 0, none⟩) 1 1 _).mono ?_; rintro e w3 ⟨⟨p, c, rfl⟩, hb3⟩)
  go_ret
  exact ⟨⟨_, _, rfl⟩, hb1.trans (hb3.mono hb1.size)⟩
set_option maxRecDepth 100000 in
theorem registers_any (b mo mw mt : Nat) (B : Nat → Prop) (O W : List E3) (T : List (Nm × Nat)) (w : World) (h : DagSet w b mo mw mt B O W T) (hI : DInv ⟨O.map E3.ent, W.map E3.ent⟩) (hL : O.length ≤ 1000000) :
    Calls Tryz.prog 31 #[.pointer (some ⟨b, 0, none⟩)] w fun e w' => ∃ p c, e = .returned (.slice p (keysL (O.map E3.ent) [3]).length c) ∧ w'.ownsRow w.heap.size 9 1 (.slice p (keysL (O.map E3.ent) [3]).length c) (keysL (O.map E3.ent) [3]).length (scs (keysL (O.map E3.ent) [3])) ∧ Below w.heap.size w w' := by
  have hb1 : Below w.heap.size w (w.alloc (.cells #[.int .i64 3] 3)) := (Below.refl _ w).alloc (Nat.le_refl _) _
  have HB1 := Lib.hid hb1
  have HCK := Lib.hid (keys_any [3] (some ⟨w.heap.size, 0, none⟩) 1 b mo mw mt B O W T (w.alloc (.cells #[.int .i64 3] 3)) (h.under hb1) hI hL (src_three w _) (by simp))
  obtain ⟨K, hK⟩ : ∃ K, K = keysL (O.map E3.ent) [3] := ⟨_, rfl⟩
  rw [← hK] at HCK ⊢
  clear h hI hb1 hK
  go_enter Tryz.func31, Tryz.ntmps31
  go_wp2_with (go_at_call 21; refine HCK.out.mono ?_; rintro e w3 ⟨p, c, rfl, ho, hb3⟩)
  go_ret
  exact ⟨p, c, rfl, orow_down ho HB1.out.size, HB1.out.trans (hb3.mono HB1.out.size)⟩
end Go.Proofs.YtfoifdhcelcgiaaGreatDoor

/- tribunalref11.In and Keys: the keys of operations of some kinds, rising, each once. -/
namespace Go.Proofs.YtfoifdhcelcgiaaGreatDoor
open Go Go.RowKit

theorem ints_at {w : World} {p : Option Addr} {zs : List Int} (h : Src w p (zs.map (Value.int .i64))) {n : Nat} (hn : n < zs.length) : ∃ z g off, zs[n]? = some z ∧ p = some ⟨g, off, none⟩ ∧ w.cell? ⟨g, off + n, none⟩ = some (.int .i64 z) := by
  have hx : zs[n]? = some zs[n] := List.getElem?_eq_getElem hn
  obtain ⟨g, off, e, hc⟩ := h.at_ n (.int .i64 zs[n]) (by rw [List.getElem?_map, hx]; rfl)
  exact ⟨zs[n], g, off, hx, e, hc⟩
set_option maxRecDepth 100000 in
set_option maxHeartbeats 4000000 in
theorem rin_any (zs : List Int) (x : Int) (p : Option Addr) (c : Nat) (w : World) (hs : Src w p (zs.map (Value.int .i64))) (hl : zs.length ≤ 1000000000) :
    Calls Tryz.prog 50 #[.slice p zs.length c, .int .i64 x] w fun e w' => e = .returned (.bool (zs.contains x)) ∧ w' = w := by
  have HS := Lib.hid hs
  clear hs
  go_enter Tryz.func50, Tryz.ntmps50
  go_upto_region 2 with fail
  go_loopw [9] (fun i wr => ∃ n : Nat, n ≤ zs.length ∧ i = .int .i64 n ∧ Hid (x ∉ zs.take n) ∧ wr = w) (fun i _ => zs.length - (intOf i).toNat)
  case atStart => exact ⟨0, by omega, rfl, Lib.hid (by simp), rfl⟩
  case round =>
    obtain ⟨n, hn1, rfl, HN, rfl⟩ := hrel
    by_cases hlt : n < zs.length
    · obtain ⟨z, g, off, hz1, hp, hz3⟩ := ints_at HS.out hlt
      subst hp
      have HZ := Lib.hid hz1
      clear hz1
      by_cases hzx : z = x
      · have h1 : (z == x) = true := beq_iff_eq.2 hzx
        have HE := Lib.hid hzx
        clear hzx
        go_wp2
        go_ret
        exact ⟨by rw [show zs.contains x = true from List.elem_eq_true_of_mem (by rw [← HE.out]; exact List.mem_of_getElem? HZ.out)]; rfl, rfl⟩
      · have h1 : (z == x) = false := beq_eq_false_iff_ne.2 hzx
        have HE := Lib.hid hzx
        clear hzx
        go_wp2
        clear h1 hz3
        go_roundw
        case rel =>
          refine ⟨n + 1, by omega, by go_num, Lib.hid (show x ∉ zs.take (n + 1) from fun hm => ?_), by first | rfl | trivial⟩
          rw [List.take_add_one, HZ.out] at hm
          rcases List.mem_append.1 hm with h1 | h1
          · exact HN.out h1
          · have h2 : x = z := by simpa using h1
            exact HE.out h2.symm
        case measure => simp [intOf] <;> omega
    · obtain rfl : n = zs.length := by omega
      go_wp2
      go_ret
      exact ⟨by
        rw [show zs.contains x = false from by
          have h1 := HN.out
          rw [List.take_length] at h1
          simpa using h1]
        rfl, rfl⟩
theorem keysL_own (l : List NOp) (kinds : List Int) : ascL (keysOf l kinds) = keysL l kinds := by
  unfold keysL
  refine ascL_of_mem fun x => ?_
  unfold keysOf
  exact (((rowL_perm l).filter _).map _).mem_iff.symm
set_option maxRecDepth 100000 in
set_option maxHeartbeats 16000000 in
theorem rkeys_any (kinds : List Int) (pk : Option Addr) (ck : Nat) (b : Nat) (vo vw vn vm : Value) (F B : Nat → Prop) (O W : List E3) (w : World) (h : RefSet w b vo vw vn vm F B O W) (hL : O.length ≤ 100000)
    (hsk : Src w pk (kinds.map (Value.int .i64))) (hkl : kinds.length ≤ 1000000000) :
    Calls Tryz.prog 22 #[.pointer (some ⟨b, 0, none⟩), .slice pk kinds.length ck] w fun e w' => ∃ p c, e = .returned (.slice p (keysL (O.map E3.ent) kinds).length c) ∧ Owns w' w.heap.size 9 1 (.slice p (keysL (O.map E3.ent) kinds).length c) (keysL (O.map E3.ent) kinds).length (scs (keysL (O.map E3.ent) kinds)) ∧ Below w.heap.size w w' := by
  obtain ⟨hzo, _⟩ := info_two opZero
  obtain ⟨is, his, hsz0, hsz1, hsz2⟩ := info_parts strInfo
  have HZO := Lib.hid hzo
  obtain ⟨p, cap, hv⟩ := h.ops.form
  subst hv
  have hc0 := h.c0
  have HRS := Lib.hid h.ops.srcOf
  have HS1 := Lib.hid hsk
  have HR38 := Lib.hid (show ∀ e ∈ O, e.cs.length = 38 from fun e he => OpV.cs_length (h.okO e he).ok _ _)
  obtain ⟨l, hl⟩ : ∃ l, l = O.map E3.ent := ⟨_, rfl⟩
  have HL := Lib.hid hl
  rw [← hl]
  clear h hzo hsk hl
  go_enter Tryz.func22, Tryz.ntmps22
  go_upto_region 3 with fail
  clear hc0
  go_loopw [5, 13] (fun v i wr => ∃ (n : Nat) (K : List Tx), n ≤ O.length ∧ i = .int .i64 n ∧ K.length ≤ n ∧ Hid (K = keysOf (l.take n) kinds) ∧ Hid (wr.ownsRow w.heap.size 9 1 v K.length (scs K)) ∧ Hid (Below w.heap.size w wr)) (fun _ i _ => O.length - (intOf i).toNat)
  case atStart => exact ⟨0, [], by omega, rfl, by simp, Lib.hid rfl, Lib.hid (orow_nil _ _ _ _), Lib.hid (Below.refl _ _)⟩
  case round =>
    obtain ⟨n, K, hn1, rfl, hKl, HK, HOW, HB⟩ := hrel
    have hzr := HB.out.size
    by_cases hlt : n < O.length
    · obtain ⟨ex, gx, ox, hx1, hx2, hx3, hpx, hx4⟩ := op_at (HRS.out.below HB.out (Nat.le_refl _)).at_ HR38.out hlt
      subst hpx
      obtain ⟨xo, hxo⟩ : ∃ y, y = ex.o := ⟨_, rfl⟩
      obtain ⟨xp, hxp⟩ : ∃ y, y = ex.p := ⟨_, rfl⟩
      obtain ⟨xc, hxc⟩ : ∃ y, y = ex.c := ⟨_, rfl⟩
      have hcsx : ex.cs = xo.cs xp xc := by rw [hxo, hxp, hxc]; rfl
      have HCx := Lib.hid (show cellsAt wr gx (ox + n * 38) (xo.cs xp xc) by rw [← hcsx]; exact hx4)
      have H38x := Lib.hid (show (xo.cs xp xc).length = 38 by rw [← hcsx]; exact HR38.out ex hx3)
      have HON := Lib.hid (OpV.cs_one xo xp xc)
      have HOZ := Lib.hid (show (zeroOp.cs none 0).toArray.size = (xo.cs xp xc).toArray.size by rw [List.size_toArray, List.size_toArray, H38x.out]; rfl)
      have HTK := Lib.hid (show keysOf (l.take (n + 1)) kinds = K ++ (if kinds.contains xo.d.kind then [xo.d.key] else []) by
        rw [HK.out, HL.out, ← List.map_take, hx2, List.map_append, List.map_cons, List.map_nil, keysOf_snoc, List.map_take, hxo]
        rfl)
      clear hcsx hxo hxp hxc hx1 hx2 hx3 hx4
      go_upto_region 5 with (first
        | (refine wpList_loadAgg _ rfl 46 _ rfl _ Tryz.underlying46 rfl gx (ox + n * 38) (by rfl) (xo.cs xp xc) (by rw [opInfo, H38x.out]) HCx.out ?_)
        | (refine wpList_allocZ _ rfl 46 rfl _ HZO.out ?_)
        | (refine wpList_storeNew _ wr rfl 46 _ _ rfl (zeroOp.cs none 0).toArray rfl (by rfl) (xo.cs xp xc).toArray (by rfl) (by rw [opInfo, List.size_toArray, H38x.out]) HOZ.out (by simpa using HON.out) ?_))
      obtain ⟨w6, hw6⟩ : ∃ w6, w6 = wr.alloc (.cells (xo.cs xp xc).toArray 46) := ⟨_, rfl⟩
      rw [← hw6]
      obtain ⟨k6, hk6⟩ : ∃ k, k = wr.heap.size := ⟨_, rfl⟩
      rw [← hk6]
      have hb6 : Below wr.heap.size wr w6 := by rw [hw6]; exact (Below.refl _ wr).alloc (Nat.le_refl _) _
      have HC6 := Lib.hid (show cellsAt w6 k6 0 (xo.cs xp xc) by rw [hw6, hk6]; simpa using cellsAt_new wr (xo.cs xp xc).toArray 46)
      have hz6 := hb6.size
      have HB6 := Lib.hid (HB.out.trans (hb6.mono hzr))
      have HO6 := Lib.hid (orow_under HOW.out hb6)
      have HS6 := Lib.hid (HS1.out.below HB6.out (Nat.le_refl _))
      clear hw6 hk6 hb6
      have hc0 := (OpV.cs_kind HC6.out).1
      have hc1 := (OpV.cs_kind HC6.out).2.1
      have HCT := Lib.hid (rin_any kinds xo.d.kind pk ck w6 HS6.out hkl)
      by_cases hin : kinds.contains xo.d.kind = true
      · rw [hin] at HCT
        have HK2 := Lib.hid (show K ++ [xo.d.key] = keysOf (l.take (n + 1)) kinds by rw [HTK.out, if_pos hin])
        clear hin HTK
        go_wp2_with (first
          | (go_at_call 50; refine HCT.out.mono ?_; rintro e w7 ⟨rfl, rfl⟩)
          | (at_builtin; refine wpList_append_src rfl _ _ 51 rfl w.heap.size 9 is _ 1 16 Tryz.underlying51 his hsz0 hsz1 hsz2 (by rfl) (by omega) u5 K.length (scs K) (by rfl) (orow_under HO6.out ((Below.refl _ _).alloc (Nat.le_refl _) _)) (some ⟨w7.heap.size, 0, none⟩) 1 1 (scs [xo.d.key]) (by rfl) (by rfl) (src_new w7 (scs [xo.d.key]) 9) (fun a e => by cases e; rfl) (scs_one _) (by unfold maxLen; omega) (by omega) (by rw [World.size_alloc]; omega) ?_; intro v9 w9 hown9 hg9 hs9))
        have HB9 := Lib.hid ((HB6.out.alloc (by omega) (.cells #[txt xo.d.key] 9)).grown hg9 (by rw [World.size_alloc]; omega) (fun k e => (orow_lt HO6.out e).1))
        have HO9 := Lib.hid (show w9.ownsRow w.heap.size 9 1 v9 (K ++ [xo.d.key]).length (scs (K ++ [xo.d.key])) by
          rw [List.length_append]
          simpa [scs] using hown9)
        clear hown9 hg9 hs9 hc0 hc1
        go_roundw
        case rel => exact ⟨n + 1, K ++ [xo.d.key], by omega, by go_num, by simp; omega, HK2, HO9, HB9⟩
        case measure => simp [intOf] <;> omega
      · have hin' : kinds.contains xo.d.kind = false := by simpa using hin
        rw [hin'] at HCT
        have HK2 := Lib.hid (show K = keysOf (l.take (n + 1)) kinds by rw [HTK.out, if_neg hin, List.append_nil])
        clear hin hin' HTK
        go_wp2_with (go_at_call 50; refine HCT.out.mono ?_; rintro e w7 ⟨rfl, rfl⟩)
        clear hc0 hc1
        go_roundw
        case rel => exact ⟨n + 1, K, by omega, by go_num, by omega, HK2, HO6, HB6⟩
        case measure => simp [intOf] <;> omega
    · obtain rfl : n = O.length := by omega
      obtain ⟨p5, c5, hp5⟩ := (Owns.of HOW.out).form
      subst hp5
      have HKE := Lib.hid (show ascL K = keysL l kinds by
        rw [HK.out, List.take_of_length_le (by rw [HL.out, List.length_map]; exact Nat.le_refl _), keysL_own])
      have HCS := Lib.hid (ristx_any K p5 c5 wr (Owns.srcOf (Owns.of HOW.out)) (by omega))
      go_wp2_with (go_at_call 24; refine HCS.out.mono ?_; rintro e w2 ⟨v, rfl, ho2, hb2⟩; obtain ⟨p6, c6, hp6⟩ := ho2.form; subst hp6)
      go_ret
      rw [HKE.out] at ho2 ⊢
      exact ⟨p6, c6, rfl, ho2.down hzr, HB.out.trans (hb2.mono hzr)⟩
end Go.Proofs.YtfoifdhcelcgiaaGreatDoor

/- tribunalref12.Value: the last that was put into a register, by definition. -/
namespace Go.Proofs.YtfoifdhcelcgiaaGreatDoor
open Go Go.RowKit

/-! ### the plain law -/
def bestP : Option NOp → NOp → Option NOp
  | none, o => some o
  | some b, o => if bef b o then some o else some b
def bestL (l : List NOp) : Option NOp := l.foldl bestP none
def IsMaxO (l : List NOp) : Option NOp → Prop
  | none => l = []
  | some b => b ∈ l ∧ ∀ x ∈ l, bef b x = false
theorem bestL_snoc (l : List NOp) (o : NOp) : bestL (l ++ [o]) = bestP (bestL l) o := by
  unfold bestL
  rw [List.foldl_append]
  rfl
theorem isMax_step {l : List NOp} {m : Option NOp} (h : IsMaxO l m) (o : NOp) : IsMaxO (l ++ [o]) (bestP m o) := by
  cases m with
  | none =>
    have h0 : l = [] := h
    subst h0
    exact ⟨by simp, fun x hx => by
      have : x = o := by simpa using hx
      rw [this]; exact bef_irrefl o⟩
  | some b =>
    show IsMaxO (l ++ [o]) (if bef b o = true then some o else some b)
    by_cases hb : bef b o = true
    · rw [if_pos hb]
      refine ⟨by simp, fun x hx => ?_⟩
      rcases List.mem_append.1 hx with h1 | h1
      · rcases bef_or (x := o) (y := x) with h2 | h2
        · exact h2
        · have := bef_ntrans (h.2 x h1) h2
          rw [hb] at this
          cases this
      · rw [List.mem_singleton.1 h1]; exact bef_irrefl o
    · rw [if_neg hb]
      refine ⟨List.mem_append.2 (.inl h.1), fun x hx => ?_⟩
      rcases List.mem_append.1 hx with h1 | h1
      · exact h.2 x h1
      · rw [List.mem_singleton.1 h1]; simpa using hb
theorem bestL_max (l : List NOp) : IsMaxO l (bestL l) := by
  have key : ∀ (k l : List NOp) (m : Option NOp), IsMaxO l m → IsMaxO (l ++ k) (k.foldl bestP m) := by
    intro k
    induction k with
    | nil => intro l m h; simpa using h
    | cons o k ih =>
      intro l m h
      have h1 := ih (l ++ [o]) (bestP m o) (isMax_step h o)
      rw [List.append_assoc] at h1
      exact h1
  have := key l [] none rfl
  simpa [bestL] using this
theorem last_max {l : List NOp} (h : l.Pairwise fun x y => bef y x = false) : IsMaxO l l.getLast? := by
  cases hl : l.getLast? with
  | none => exact List.getLast?_eq_none_iff.1 hl
  | some b =>
    obtain ⟨k, hk⟩ := List.getLast?_eq_some_iff.1 hl
    subst hk
    refine ⟨by simp, fun x hx => ?_⟩
    rcases List.mem_append.1 hx with h1 | h1
    · exact (List.pairwise_append.1 h).2.2 x h1 b (by simp)
    · rw [List.mem_singleton.1 h1]; exact bef_irrefl b
theorem best_last {l : List NOp} (hd : (namesOf l).Nodup) (p : NOp → Bool) : bestL (l.filter p) = ((rowL l).filter p).getLast? := by
  have h1 := bestL_max (l.filter p)
  have h2 := last_max ((rowL_pairwise l).sublist List.filter_sublist (l₁ := (rowL l).filter p))
  have hm : ∀ x, x ∈ (rowL l).filter p ↔ x ∈ l.filter p := fun x => ((rowL_perm l).filter p).mem_iff
  cases e1 : bestL (l.filter p) with
  | none =>
    rw [e1] at h1
    have h3 : l.filter p = [] := h1
    have h4 : (rowL l).filter p = [] := List.eq_nil_iff_forall_not_mem.2 fun x hx => by
      have := (hm x).1 hx
      rw [h3] at this
      cases this
    rw [h4]
    rfl
  | some b =>
    rw [e1] at h1
    cases e2 : ((rowL l).filter p).getLast? with
    | none =>
      have h4 := List.getLast?_eq_none_iff.1 e2
      have := (hm b).2 h1.1
      rw [h4] at this
      cases this
    | some c =>
      rw [e2] at h2
      have hb := bef_anti (h1.2 c ((hm c).1 h2.1)) (h2.2 b ((hm b).2 h1.1))
      rw [names_inj hd (List.mem_filter.1 h1.1).1 (List.mem_filter.1 ((hm c).1 h2.1)).1 hb]
/-- what lies in best, behind n operations -/
def BestSt (O : List E3) (key : Tx) (n : Nat) (bb : Bool) (bo : OpV) (bp : Option Addr) (bc : Nat) : Prop :=
  (bb = false ∧ bo = zeroOp ∧ bp = none ∧ bc = 0 ∧ bestL (((O.map E3.ent).take n).filter (pickO key [3])) = none) ∨ (bb = true ∧ ∃ e ∈ O, e.o = bo ∧ e.p = bp ∧ e.c = bc ∧ bestL (((O.map E3.ent).take n).filter (pickO key [3])) = some e.ent)
theorem BestSt.skip {O : List E3} {key : Tx} {n : Nat} {bb : Bool} {bo : OpV} {bp : Option Addr} {bc : Nat} {e : E3} (h : BestSt O key n bb bo bp bc) (he : O[n]? = some e) (hp : pickO key [3] e.ent = false) : BestSt O key (n + 1) bb bo bp bc := by
  unfold BestSt at *
  rw [filter_succ (show (O.map E3.ent)[n]? = some e.ent by rw [List.getElem?_map, he]; rfl), hp]
  simpa using h
theorem BestSt.first {O : List E3} {key : Tx} {n : Nat} {bo : OpV} {bp : Option Addr} {bc : Nat} {e : E3} (h : BestSt O key n false bo bp bc) (he : O[n]? = some e) (hp : pickO key [3] e.ent = true) : BestSt O key (n + 1) true e.o e.p e.c := by
  rcases h with ⟨_, _, _, _, h⟩ | ⟨h, _⟩
  · refine .inr ⟨rfl, e, List.mem_of_getElem? he, rfl, rfl, rfl, ?_⟩
    rw [filter_succ (show (O.map E3.ent)[n]? = some e.ent by rw [List.getElem?_map, he]; rfl), hp, if_pos rfl, bestL_snoc, h]
    rfl
  · cases h
theorem BestSt.next {O : List E3} {key : Tx} {n : Nat} {bo : OpV} {bp : Option Addr} {bc : Nat} {e : E3} (hnm : ∀ e ∈ O, e.n = nameB e.o) (h : BestSt O key n true bo bp bc) (he : O[n]? = some e) (hp : pickO key [3] e.ent = true) :
    (befO bo e.o = true → BestSt O key (n + 1) true e.o e.p e.c) ∧ (befO bo e.o = false → BestSt O key (n + 1) true bo bp bc) := by
  rcases h with ⟨h, _⟩ | ⟨_, eb, hm, rfl, rfl, rfl, hb⟩
  · cases h
  · have hbe : befO eb.o e.o = bef eb.ent e.ent := by
      unfold befO E3.ent
      rw [hnm eb hm, hnm e (List.mem_of_getElem? he)]
    have hs : bestL (((O.map E3.ent).take (n + 1)).filter (pickO key [3])) = bestP (some eb.ent) e.ent := by
      rw [filter_succ (show (O.map E3.ent)[n]? = some e.ent by rw [List.getElem?_map, he]; rfl), hp, if_pos rfl, bestL_snoc, hb]
    constructor
    · intro h1
      refine .inr ⟨rfl, e, List.mem_of_getElem? he, rfl, rfl, rfl, ?_⟩
      rw [hs]
      show (if bef eb.ent e.ent = true then some e.ent else some eb.ent) = some e.ent
      rw [if_pos (by rw [← hbe]; exact h1)]
    · intro h1
      refine .inr ⟨rfl, eb, hm, rfl, rfl, rfl, ?_⟩
      rw [hs]
      show (if bef eb.ent e.ent = true then some e.ent else some eb.ent) = some eb.ent
      rw [if_neg (by rw [← hbe, h1]; decide)]
theorem BestSt.last {O : List E3} {key : Tx} {bb : Bool} {bo : OpV} {bp : Option Addr} {bc : Nat} (hd : (namesOf (O.map E3.ent)).Nodup) (h : BestSt O key O.length bb bo bp bc) : lastV ((rowL (O.map E3.ent)).filter (pickO key [3])) = (bo.d.value, bb) := by
  have ht : (O.map E3.ent).take O.length = O.map E3.ent := List.take_of_length_le (by rw [List.length_map]; exact Nat.le_refl _)
  unfold lastV
  rw [← best_last hd]
  rcases h with ⟨rfl, rfl, _, _, h⟩ | ⟨rfl, e, _, rfl, _, _, h⟩
  · rw [ht] at h
    rw [h]
    rfl
  · rw [ht] at h
    rw [h]
    rfl
theorem build_zeroOp (w : World) : (Instr.build 46 #[]).run Tryz.prog w = .ok (.agg (zeroOp.cs none 0).toArray) w := by kernel_rfl
section
variable {P : Program} (w : World) {ops : Array Oper} {rest : List Oper} {o : Oper} {a : Act} {Q : Exit → Act → World → Prop}
theorem wpList_loadAggW' (t : TypeId) (x : Operand) (hop : o.op = .load t x) (hw : Region.wanted o (yielded ops a.tmps) = true) (d : TypeDesc) (hu : P.underlying t = some d) (hd : isRowD d = true)
    (b off : Nat) (hx : a.eval x = .pointer (some ⟨b, off, none⟩)) (cs : List Value) (hi : (P.info? t).map (·.size) = some cs.length) (hc : cellsAt w b off cs)
    (h : wpList P ops Q rest (a.put o.dst (.agg cs.toArray)) w) : wpList P ops Q (o :: rest) a w := by
  unfold wpList
  rw [if_pos hw]
  refine .inl ?_
  unfold Oper.wp execOp
  simp only [hop, hx, Instr.loadAt, Instr.sureAddr, Sem.run_bind, Sem.run_pure, Result.andThen_ok, run_loadAgg hu hd hi hc]
  exact h
end
/-! ### the walk -/
set_option maxRecDepth 100000 in
set_option maxHeartbeats 16000000 in
theorem rvalue_any (key : Tx) (b : Nat) (vo vw vn vm : Value) (F B : Nat → Prop) (O W : List E3) (w : World) (h : RefSet w b vo vw vn vm F B O W) (hd : (namesOf (O.map E3.ent)).Nodup) (hnm : ∀ e ∈ O, e.n = nameB e.o) (hL : O.length ≤ 1000) (hT : Tabs w) :
    Calls Tryz.prog 30 #[.pointer (some ⟨b, 0, none⟩), txt key] w fun e w' => e = .returned (.tuple #[txt (lastV ((rowL (O.map E3.ent)).filter (pickO key [3]))).1, .bool (lastV ((rowL (O.map E3.ent)).filter (pickO key [3]))).2]) ∧ Below w.heap.size w w' := by
  obtain ⟨hzo, _⟩ := info_two opZero
  have HZO := Lib.hid hzo
  have HH := Lib.hid h
  have HND := Lib.hid hd
  have HNM := Lib.hid hnm
  have HT := Lib.hid hT
  obtain ⟨p, cap, hv⟩ := h.ops.form
  subst hv
  have HRS := Lib.hid h.ops.srcOf
  have HR38 := Lib.hid (show ∀ e ∈ O, e.cs.length = 38 from fun e he => OpV.cs_length (h.okO e he).ok _ _)
  have hz38 : (zeroOp.cs none 0).length = 38 := OpV.cs_length zeroOp_ok none 0
  have HZ38 := Lib.hid hz38
  clear h hzo hd hnm hT hz38
  go_enter Tryz.func30, Tryz.ntmps30
  go_upto_region 2 with (first
    | (refine wpList_buildZ _ rfl 46 rfl _ (build_zeroOp _) ?_)
    | (refine wpList_allocZ _ rfl 46 rfl _ HZO.out ?_)
    | (refine wpList_storeNew _ w rfl 46 _ _ rfl (zeroOp.cs none 0).toArray rfl (by rfl) (zeroOp.cs none 0).toArray (by rfl) (by rw [opInfo, List.size_toArray, HZ38.out]) rfl (by simpa using OpV.cs_one zeroOp none 0) ?_))
  obtain ⟨w1, hw1⟩ : ∃ w1, w1 = w.alloc (.cells (zeroOp.cs none 0).toArray 46) := ⟨_, rfl⟩
  rw [← hw1]
  obtain ⟨kb, hkb⟩ : ∃ k, k = w.heap.size := ⟨_, rfl⟩
  rw [← hkb]
  have hb1 : Below w.heap.size w w1 := by rw [hw1]; exact (Below.refl _ w).alloc (Nat.le_refl _) _
  have HRB1 := Lib.hid (show w1.heap[kb]? = some (.cells (zeroOp.cs none 0).toArray 46 (0, 0)) by rw [hw1, hkb]; exact (MapKept.heap_alloc _ _).1)
  have hkb1 : kb < w1.heap.size := by rw [hw1, hkb]; simp
  have hkbw : w.heap.size ≤ kb := by omega
  have HB1 := Lib.hid hb1
  have hc0 := (HH.out.under hb1).c0
  have hz1 := hb1.size
  have hkbl : kb ≤ w.heap.size := by omega
  clear hw1 hb1 hkb
  go_upto_region 4 with fail
  clear hc0
  go_loopw [7, 16] (fun v i wr => ∃ (n : Nat) (bb : Bool) (bo : OpV) (bp : Option Addr) (bc : Nat), n ≤ O.length ∧ v = .bool bb ∧ i = .int .i64 n ∧ Hid (wr.heap[kb]? = some (.cells (bo.cs bp bc).toArray 46 (0, 0))) ∧ Hid (BestSt O key n bb bo bp bc) ∧ Hid (Below w.heap.size w wr) ∧ kb < wr.heap.size) (fun _ i _ => O.length - (intOf i).toNat)
  case atStart => exact ⟨0, false, zeroOp, none, 0, by omega, rfl, rfl, HRB1, Lib.hid (.inl ⟨rfl, rfl, rfl, rfl, rfl⟩), HB1, hkb1⟩
  case round =>
    obtain ⟨n, bb, bo, bp, bc, hn1, rfl, rfl, HRB, HBS, HB, hkbr⟩ := hrel
    have hzr := HB.out.size
    by_cases hlt : n < O.length
    · obtain ⟨ex, gx, ox, hx1, _, hx3, hpx, hx4⟩ := op_at (HRS.out.below HB.out (Nat.le_refl _)).at_ HR38.out hlt
      subst hpx
      have HEn := Lib.hid hx1
      have HMx := Lib.hid hx3
      obtain ⟨xo, hxo⟩ : ∃ y, y = ex.o := ⟨_, rfl⟩
      obtain ⟨xp, hxp⟩ : ∃ y, y = ex.p := ⟨_, rfl⟩
      obtain ⟨xc, hxc⟩ : ∃ y, y = ex.c := ⟨_, rfl⟩
      have hcs : ex.cs = xo.cs xp xc := by rw [hxo, hxp, hxc]; rfl
      have HXO := Lib.hid hxo
      have HXP := Lib.hid hxp
      have HXC := Lib.hid hxc
      have HCx := Lib.hid (show cellsAt wr gx (ox + n * 38) (xo.cs xp xc) by rw [← hcs]; exact hx4)
      have H38x := Lib.hid (show (xo.cs xp xc).length = 38 by rw [← hcs]; exact HR38.out ex hx3)
      have HON := Lib.hid (OpV.cs_one xo xp xc)
      have HOZ := Lib.hid (show (zeroOp.cs none 0).toArray.size = (xo.cs xp xc).toArray.size by rw [List.size_toArray, List.size_toArray, H38x.out]; rfl)
      clear hcs hxo hxp hxc hx1 hx3 hx4
      go_upto_region 6 with (first
        | (refine wpList_loadAgg _ rfl 46 _ rfl _ Tryz.underlying46 rfl gx (ox + n * 38) (by rfl) (xo.cs xp xc) (by rw [opInfo, H38x.out]) HCx.out ?_)
        | (refine wpList_allocZ _ rfl 46 rfl _ HZO.out ?_)
        | (refine wpList_storeNew _ wr rfl 46 _ _ rfl (zeroOp.cs none 0).toArray rfl (by rfl) (xo.cs xp xc).toArray (by rfl) (by rw [opInfo, List.size_toArray, H38x.out]) HOZ.out (by simpa using HON.out) ?_))
      obtain ⟨w6, hw6⟩ : ∃ w6, w6 = wr.alloc (.cells (xo.cs xp xc).toArray 46) := ⟨_, rfl⟩
      rw [← hw6]
      obtain ⟨k6, hk6⟩ : ∃ k, k = wr.heap.size := ⟨_, rfl⟩
      rw [← hk6]
      have hb6 : Below wr.heap.size wr w6 := by rw [hw6]; exact (Below.refl _ wr).alloc (Nat.le_refl _) _
      have hC6 : cellsAt w6 k6 0 (xo.cs xp xc) := by rw [hw6, hk6]; simpa using cellsAt_new wr (xo.cs xp xc).toArray 46
      have HC6 := Lib.hid hC6
      have HB6 := Lib.hid (HB.out.trans (hb6.mono hzr))
      have hz6 := hb6.size
      have hk66 : k6 < w6.heap.size := by rw [hw6, hk6]; simp
      have hk66b : kb < w6.heap.size := by omega
      have HRB6 := Lib.hid ((hb6.block kb hkbr).trans HRB.out)
      have hc0 := (OpV.cs_kind hC6).1
      have hc1 := (OpV.cs_kind hC6).2.1
      obtain ⟨xk, hxk⟩ : ∃ y, y = xo.d.kind := ⟨_, rfl⟩
      obtain ⟨xt, hxt⟩ : ∃ y, y = xo.d.key := ⟨_, rfl⟩
      have HPE := Lib.hid (show pickO key [3] ex.ent = (decide (xt = key) && [3].contains xk) by rw [hxt, hxk, HXO.out]; rfl)
      rw [← hxk] at hc0
      rw [← hxt] at hc1
      clear hw6 hk6 hb6 hC6 hxk hxt
      by_cases h1 : xk = 3
      · subst h1
        by_cases h2 : xt = key
        · have e2 : (xt == key) = true := beq_iff_eq.2 h2
          have e2' : ((⟨xt.toArray⟩ : ByteArray).toList == (⟨key.toArray⟩ : ByteArray).toList) = true := by rw [h2]; simp
          have HP := Lib.hid (show pickO key [3] ex.ent = true by rw [HPE.out, h2]; simp)
          clear h2 HPE
          cases bb with
          | false =>
            have hbo : (bo.cs bp bc).length = 38 := by
              rcases HBS.out with ⟨_, rfl, rfl, rfl, _⟩ | ⟨h, _⟩
              · exact HZ38.out
              · cases h
            have HSZ := Lib.hid (show (bo.cs bp bc).toArray.size = (xo.cs xp xc).toArray.size by rw [List.size_toArray, List.size_toArray, H38x.out, hbo])
            have HBN := Lib.hid (show BestSt O key (n + 1) true xo xp xc by rw [HXO.out, HXP.out, HXC.out]; exact HBS.out.first HEn.out HP.out)
            clear hbo
            go_upto_region 7 with fail
            clear hc0 hc1 e2 e2'
            go_wp2_with (first
              | (refine wpList_loadAgg _ rfl 46 _ rfl _ Tryz.underlying46 rfl k6 0 (by rfl) (xo.cs xp xc) (by rw [opInfo, H38x.out]) HC6.out ?_)
              | (refine wpList_storeRow rfl 46 _ _ rfl HRB6.out (by rfl) (xo.cs xp xc).toArray (by rfl) (by rw [opInfo, List.size_toArray, H38x.out]) HSZ.out (by simpa using HON.out) ?_; intro w8 hr8 hg8 hs8))
            have HB8 := Lib.hid (HB6.out.grown hg8 HB6.out.size (fun k e => by have e1 : kb = k := Option.some.inj e; omega))
            have HR8 := Lib.hid hr8
            have hk8 : kb < w8.heap.size := by rw [hs8]; exact hk66b
            clear hr8 hg8 hs8
            go_roundw
            case rel => exact ⟨n + 1, true, xo, xp, xc, by omega, rfl, by go_num, HR8, HBN, HB8, hk8⟩
            case measure => simp [intOf] <;> omega
          | true =>
            have hbm : ∃ e ∈ O, e.o = bo ∧ e.p = bp ∧ e.c = bc := by
              rcases HBS.out with ⟨h, _⟩ | ⟨_, e, h1, h2, h3, h4, _⟩
              · cases h
              · exact ⟨e, h1, h2, h3, h4⟩
            obtain ⟨eb, hb1, hb2, hb3, hb4⟩ := hbm
            have hok6 := (HH.out.under HB6.out).okO
            have HBOK := Lib.hid (show bo.Ok ∧ Src w6 bp (pcs bo.preds) by rw [← hb2, ← hb3]; exact ⟨(hok6 eb hb1).ok, (hok6 eb hb1).src⟩)
            have HXOK := Lib.hid (show xo.Ok ∧ Src w6 xp (pcs xo.preds) by rw [HXO.out, HXP.out]; exact ⟨(hok6 ex HMx.out).ok, (hok6 ex HMx.out).src⟩)
            have HB38 := Lib.hid (OpV.cs_length HBOK.out.1 bp bc)
            have HSZ := Lib.hid (show (bo.cs bp bc).toArray.size = (xo.cs xp xc).toArray.size by rw [List.size_toArray, List.size_toArray, H38x.out, HB38.out])
            have HCB := Lib.hid (show cellsAt w6 kb 0 (bo.cs bp bc) from fun j u hj => by rw [cell_of_row _ _ _ _ _ _ HRB6.out, Nat.zero_add]; simpa using hj)
            have hbef := before_any bo xo HBOK.out.1 HXOK.out.1 bp xp bc xc w6 (HT.out.of_below HB6.out HT.out.2.2) HBOK.out.2 HXOK.out.2
            have HBN := Lib.hid (HBS.out.next HNM.out HEn.out HP.out)
            clear hb1 hb2 hb3 hb4 hok6
            by_cases hbe : befO bo xo = true
            · rw [hbe] at hbef
              have HBF := Lib.hid hbef
              have HBN2 := Lib.hid (show BestSt O key (n + 1) true xo xp xc by
                rw [HXO.out] at hbe
                rw [HXO.out, HXP.out, HXC.out]
                exact HBN.out.1 hbe)
              clear hbef hbe
              go_upto_region 7 with (first
                | (refine wpList_loadAggW' _ 46 _ rfl (by rfl) _ Tryz.underlying46 rfl kb 0 (by rfl) (bo.cs bp bc) (by rw [opInfo, HB38.out]) HCB.out ?_)
                | (refine wpList_loadAggW' _ 46 _ rfl (by rfl) _ Tryz.underlying46 rfl k6 0 (by rfl) (xo.cs xp xc) (by rw [opInfo, H38x.out]) HC6.out ?_)
                | (go_at_call 34; refine HBF.out.mono ?_; rintro e w7 ⟨rfl, hb7⟩))
              have hz7 := hb7.size
              have HC7 := Lib.hid (HC6.out.of_block (hb7.block _ hk66))
              have HRB7 := Lib.hid ((hb7.block kb hk66b).trans HRB6.out)
              have HB7 := Lib.hid (HB6.out.trans (hb7.mono HB6.out.size))
              have hk7 : kb < w7.heap.size := by omega
              clear hc0 hc1 e2 e2' hb7
              go_wp2_with (first
                | (refine wpList_loadAgg _ rfl 46 _ rfl _ Tryz.underlying46 rfl k6 0 (by rfl) (xo.cs xp xc) (by rw [opInfo, H38x.out]) HC7.out ?_)
                | (refine wpList_storeRow rfl 46 _ _ rfl HRB7.out (by rfl) (xo.cs xp xc).toArray (by rfl) (by rw [opInfo, List.size_toArray, H38x.out]) HSZ.out (by simpa using HON.out) ?_; intro w8 hr8 hg8 hs8))
              have HB8 := Lib.hid (HB7.out.grown hg8 HB7.out.size (fun k e => by have e1 : kb = k := Option.some.inj e; omega))
              have HR8 := Lib.hid hr8
              have hk8 : kb < w8.heap.size := by rw [hs8]; exact hk7
              clear hr8 hg8 hs8
              go_roundw
              case rel => exact ⟨n + 1, true, xo, xp, xc, by omega, rfl, by go_num, HR8, HBN2, HB8, hk8⟩
              case measure => simp [intOf] <;> omega
            · have hbe' : befO bo xo = false := by simpa using hbe
              rw [hbe'] at hbef
              have HBF := Lib.hid hbef
              have HBN2 := Lib.hid (show BestSt O key (n + 1) true bo bp bc by
                rw [HXO.out] at hbe'
                exact HBN.out.2 hbe')
              clear hbef hbe hbe'
              go_wp2_with (first
                | (refine wpList_loadAggW' _ 46 _ rfl (by rfl) _ Tryz.underlying46 rfl kb 0 (by rfl) (bo.cs bp bc) (by rw [opInfo, HB38.out]) HCB.out ?_)
                | (refine wpList_loadAggW' _ 46 _ rfl (by rfl) _ Tryz.underlying46 rfl k6 0 (by rfl) (xo.cs xp xc) (by rw [opInfo, H38x.out]) HC6.out ?_)
                | (go_at_call 34; refine HBF.out.mono ?_; rintro e w7 ⟨rfl, hb7⟩))
              have hz7 := hb7.size
              have HRB7 := Lib.hid ((hb7.block kb hk66b).trans HRB6.out)
              have HB7 := Lib.hid (HB6.out.trans (hb7.mono HB6.out.size))
              have hk7 : kb < w7.heap.size := by omega
              clear hc0 hc1 e2 e2' hb7
              go_roundw
              case rel => exact ⟨n + 1, true, bo, bp, bc, by omega, rfl, by go_num, HRB7, HBN2, HB7, hk7⟩
              case measure => simp [intOf] <;> omega
        · have HNP := Lib.hid (show pickO key [3] ex.ent = false by rw [HPE.out]; simp [h2])
          have e2 : (xt == key) = false := beq_eq_false_iff_ne.2 h2
          have e2' : ((⟨xt.toArray⟩ : ByteArray).toList == (⟨key.toArray⟩ : ByteArray).toList) = false := by
            rw [ByteArray.toList_eq, ByteArray.toList_eq, beq_eq_false_iff_ne]
            exact h2
          clear h2 HPE
          go_wp2
          go_roundw
          case rel => exact ⟨n + 1, bb, bo, bp, bc, by omega, rfl, by go_num, HRB6, Lib.hid (HBS.out.skip HEn.out HNP.out), HB6, hk66b⟩
          case measure => simp [intOf] <;> omega
      · have HNP := Lib.hid (show pickO key [3] ex.ent = false by rw [HPE.out]; simp; intro _; exact h1)
        have e1 : (xk == 3) = false := beq_eq_false_iff_ne.2 h1
        clear h1 HPE
        go_wp2
        go_roundw
        case rel => exact ⟨n + 1, bb, bo, bp, bc, by omega, rfl, by go_num, HRB6, Lib.hid (HBS.out.skip HEn.out HNP.out), HB6, hk66b⟩
        case measure => simp [intOf] <;> omega
    · obtain rfl : n = O.length := by omega
      have HLV := Lib.hid (HBS.out.last HND.out)
      have hcv := (OpV.cs_kind (show cellsAt wr kb 0 (bo.cs bp bc) from fun j u hj => by rw [cell_of_row _ _ _ _ _ _ HRB.out, Nat.zero_add]; simpa using hj)).2.2
      obtain ⟨xv, hxv⟩ : ∃ y, y = bo.d.value := ⟨_, rfl⟩
      rw [← hxv] at hcv HLV
      clear hxv
      go_wp2
      go_ret2
      rw [HLV.out]
      exact ⟨rfl, HB.out⟩
end Go.Proofs.YtfoifdhcelcgiaaGreatDoor
