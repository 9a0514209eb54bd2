/-
  Parts of one kind, put together.
-/
import Derived.Test.YtfoifdhcelcgiaaGreatDoorLineOf
import Derived.Test.YtfoifdhcelcgiaaGreatDoorJn
import Derived.Test.YtfoifdhcelcgiaaGreatDoorRisT
import Derived.Test.YtfoifdhcelcgiaaGreatDoorLineK
import Derived.Test.YtfoifdhcelcgiaaGreatDoorLineB
import Derived.Test.YtfoifdhcelcgiaaGreatDoorKeepP
import Derived.Test.YtfoifdhcelcgiaaGreatDoorDelP
import Derived.Test.YtfoifdhcelcgiaaGreatDoorJl
import Derived.Test.YtfoifdhcelcgiaaGreatDoorSame
/- views.Value: the last that was put into a register. -/
namespace Go.Proofs.YtfoifdhcelcgiaaGreatDoor
open Go Go.RowKit

/-- the last one's value; is there one? -/
def lastV (L : List NOp) : Tx × Bool := ((L.getLast?.map fun e => (e.2.d.value, true))).getD ([], false)
theorem lastV_nil : lastV [] = ([], false) := rfl
theorem lastV_at {L : List NOp} {e : NOp} (h : L[L.length - 1]? = some e) : lastV L = (e.2.d.value, true) := by
  unfold lastV
  rw [List.getLast?_eq_getElem?, h]
  rfl
theorem OpV.cs_two (o : OpV) (p : Option Addr) (c : Nat) : (o.cs p c)[2]? = some (txt o.d.value) := rfl
theorem src_three (w : World) (t : TypeId) : Src (w.alloc (.cells #[.int .i64 3] t)) (some ⟨w.heap.size, 0, none⟩) ([3].map (Value.int .i64)) := ⟨fun j u hj => ⟨w.heap.size, 0, rfl, by
  rw [Nat.zero_add, World.cell?_alloc_new]
  simpa using hj⟩⟩
set_option maxRecDepth 100000 in
set_option maxHeartbeats 8000000 in
theorem value_any (key : Tx) (b mo mw mt : Nat) (B : Nat → Prop) (O W : List E3) (T : List (Nm × Nat)) (w : World) (h : DagSet w b mo mw mt B O W T) (hI : DInv ⟨O.map E3.ent, W.map E3.ent⟩) (hL : O.length ≤ 1000) :
    Calls Tryz.prog 29 #[.pointer (some ⟨b, 0, none⟩), txt key] w fun e w' => e = .returned (.tuple #[txt (lastV ((rowL (O.map E3.ent)).filter (pickO key [3]))).1, .bool (lastV ((rowL (O.map E3.ent)).filter (pickO key [3]))).2]) ∧ Below w.heap.size w w' := by
  have HB1 := Lib.hid (show Below w.heap.size w (w.alloc (.cells #[.int .i64 3] 3)) from (Below.refl _ w).alloc (Nat.le_refl _) _)
  have HOF := Lib.hid (lineOf_any key [3] (some ⟨w.heap.size, 0, none⟩) 1 b mo mw mt B O W T (w.alloc (.cells #[.int .i64 3] 3)) (h.under HB1.out) hI (by omega) (src_three w _) (by simp))
  obtain ⟨L, hL0⟩ : ∃ L, L = (rowL (O.map E3.ent)).filter (pickO key [3]) := ⟨_, rfl⟩
  have hLl : L.length ≤ 1000 := by
    have h2 := List.length_filter_le (pickO key [3]) (rowL (O.map E3.ent))
    rw [rowL_length, List.length_map, ← hL0] at h2
    omega
  rw [← hL0] at HOF
  rw [← hL0]
  clear h hI hL0
  go_enter Tryz.func29, Tryz.ntmps29
  go_upto_region 2 with (go_at_call 18; refine HOF.out.mono ?_; rintro e w3 ⟨vR, R, BR, rfl, hRE, hRO⟩; obtain ⟨pR, cR, hpR⟩ := hRO.own.form; subst hpR)
  have HB := Lib.hid (HB1.out.trans (hRO.below.mono HB1.out.size))
  have hRl : R.length = L.length := by rw [← hRE, List.length_map]
  by_cases h0 : R.length = 0
  · have hR0 : R = [] := List.eq_nil_of_length_eq_zero h0
    subst hR0
    have hLe : L = [] := by rw [← hRE]; rfl
    clear hRE hRO hRl hLl
    subst hLe
    go_wp2
    go_ret2
    exact ⟨rfl, HB.out⟩
  · have hne : ((R.length : Int) == 0) = false := beq_eq_false_iff_ne.2 (by omega)
    obtain ⟨m, hm⟩ : ∃ m, R.length = m + 1 := ⟨R.length - 1, by omega⟩
    obtain ⟨ex, gx, ox, hx1, _, hx3, hpx, hx4⟩ := op_at hRO.own.srcOf.at_ hRO.cs38 (show m < R.length by omega)
    subst hpx
    have HLV := Lib.hid (show lastV L = (ex.o.d.value, true) from by
      refine lastV_at (e := ex.ent) ?_
      rw [← hRE, List.length_map, show R.length - 1 = m by omega, List.getElem?_map, hx1]
      rfl)
    have hcv : w3.cell? ⟨gx, ox + (R.length - 1) * 38 + 2, none⟩ = some (txt ex.o.d.value) := by
      rw [show R.length - 1 = m by omega]
      exact hx4 2 _ (OpV.cs_two ex.o ex.p ex.c)
    have hRb : R.length ≤ 1000 := by omega
    have hpos : 0 < R.length := by omega
    obtain ⟨xv, hxv⟩ : ∃ y, y = ex.o.d.value := ⟨_, rfl⟩
    rw [← hxv] at hcv HLV
    clear hRE hRO hx1 hx3 hx4 hxv h0 hm hRl hLl
    go_wp2
    go_ret2
    rw [HLV.out]
    exact ⟨rfl, HB.out⟩
end Go.Proofs.YtfoifdhcelcgiaaGreatDoor

/- The rows of a nil set: line.Order, Row, Of, Keys, and views.Value, Registers. -/
namespace Go.Proofs.YtfoifdhcelcgiaaGreatDoor
open Go Go.RowKit Go.Shelf
open Go.Lib (compact)

set_option maxRecDepth 100000 in
set_option maxHeartbeats 4000000 in
theorem order_nil (w : World) : Calls Tryz.prog 10 #[.pointer none] w fun e w' => e = .returned (.slice none 0 0) ∧ Below w.heap.size w w' := by
  have hmm := @run_makeMap Tryz.prog
  go_enter Tryz.func10, Tryz.ntmps10
  go_upto_region 2 with fail
  clear hmm
  obtain ⟨mD, hmD⟩ : ∃ k, k = w.heap.size := ⟨_, rfl⟩
  obtain ⟨m1, hm1⟩ : ∃ k, k = w.heap.size + 1 := ⟨_, rfl⟩
  obtain ⟨w1, hw1⟩ : ∃ w1, w1 = (w.alloc (.map #[] 0)).alloc (.cells #[.map (some mD)] 70) := ⟨_, rfl⟩
  have hb1 : Below w.heap.size w w1 := by rw [hw1]; exact ((Below.refl _ w).alloc (Nat.le_refl _) _).alloc (by simp) _
  rw [← hm1, ← hmD, ← hw1]
  clear hw1 hm1 hmD
  go_upto_region 3 with (go_at_call 37; refine (dnames_nil w1).mono ?_; rintro e w2 ⟨rfl, rfl⟩)
  have hs := AnyF.slices_SortFunc_none Tryz.sortId none 0 (.func (.func 40) #[] #[.pointer (some ⟨m1, 0, none⟩)]) w2
  change Calls Tryz.prog 39 _ _ _ at hs
  have HS := Lib.hid hs
  clear hs
  go_wp2_with fail
  go_loopw [14] (fun i wr => i = .int .i64 0 ∧ wr = w2) (fun _ _ => 0)
  case atStart => exact ⟨rfl, rfl⟩
  case round =>
    obtain ⟨rfl, rfl⟩ := hrel
    go_wp2_with (go_at_call 39; refine HS.out.mono ?_; rintro e w' ⟨rfl, rfl⟩)
    go_ret
    exact ⟨rfl, hb1⟩
set_option maxRecDepth 100000 in
theorem row_nil (w : World) : Calls Tryz.prog 16 #[.pointer none] w fun e w' => e = .returned (.slice none 0 0) ∧ Below w.heap.size w w' := by
  go_enter Tryz.func16, Tryz.ntmps16
  go_upto_region 3 with (go_at_call 10; refine (order_nil w).mono ?_; rintro e w2 ⟨rfl, hb2⟩)
  go_loopw [3, 11] (fun v i wr => v = .slice none 0 0 ∧ i = .int .i64 0 ∧ wr = w2) (fun _ _ _ => 0)
  case atStart => exact ⟨rfl, rfl, rfl⟩
  case round =>
    obtain ⟨rfl, rfl, rfl⟩ := hrel
    go_wp2
    go_ret
    exact ⟨rfl, hb2⟩
set_option maxRecDepth 100000 in
theorem of_nil (key : Tx) (p : Option Addr) (n c : Nat) (w : World) : Calls Tryz.prog 18 #[.pointer none, txt key, .slice p n c] w fun e w' => e = .returned (.slice none 0 0) ∧ Below w.heap.size w w' := by
  obtain ⟨w2, hw2⟩ : ∃ w2, w2 = (w.alloc (.cells #[txt key] 9)).alloc (.cells #[.slice p n c] 39) := ⟨_, rfl⟩
  have hb2 : Below w.heap.size w w2 := by rw [hw2]; exact ((Below.refl _ w).alloc (Nat.le_refl _) _).alloc (by simp) _
  go_enter Tryz.func18, Tryz.ntmps18
  go_upto_region 1 with fail
  rw [← hw2]
  clear hw2
  go_wp2_with (first
    | (go_at_call 16; refine (row_nil w2).mono ?_; rintro e w3 ⟨rfl, hb3⟩)
    | (go_at_call 47; refine (opdel_nil 0 48 #[.pointer (some ⟨w.heap.size, 0, none⟩), .pointer (some ⟨w.heap.size + 1, 0, none⟩)] w3).mono ?_; rintro e w4 ⟨rfl, rfl⟩))
  go_ret
  exact ⟨rfl, hb2.trans (hb3.mono hb2.size)⟩
set_option maxRecDepth 100000 in
theorem keys_nil (p : Option Addr) (n c : Nat) (w : World) : Calls Tryz.prog 21 #[.pointer none, .slice p n c] w fun e w' => (∃ p c, e = .returned (.slice p 0 c)) ∧ Below w.heap.size w w' := by
  go_enter Tryz.func21, Tryz.ntmps21
  go_upto_region 3 with (go_at_call 16; refine (row_nil w).mono ?_; rintro e w2 ⟨rfl, hb2⟩)
  go_loopw [5, 11] (fun v i wr => v = .slice none 0 0 ∧ i = .int .i64 0 ∧ wr = w2) (fun _ _ _ => 0)
  case atStart => exact ⟨rfl, rfl, rfl⟩
  case round =>
    obtain ⟨rfl, rfl, rfl⟩ := hrel
    have hsn := Any.slices_Sort_string_none Tryz.sortStr none 0 wr
    have hcn := Any.slices_Compact_string_empty Tryz.compactStr none 0 wr
    change Calls Tryz.prog 51 _ _ _ at hsn
    change Calls Tryz.prog 52 _ _ _ at hcn
    have HSN := Lib.hid hsn
    have HCN := Lib.hid hcn
    clear hsn hcn
    go_wp2_with (first
      | (go_at_call 51; refine HSN.out.mono ?_; rintro e w3 ⟨rfl, rfl⟩)
      | (go_at_call 52; refine HCN.out.mono ?_; rintro e w4 ⟨rfl, rfl⟩))
    go_ret
    exact ⟨⟨_, _, rfl⟩, hb2⟩
set_option maxRecDepth 100000 in
theorem value_nil (key : Tx) (w : World) : Calls Tryz.prog 29 #[.pointer none, txt key] w fun e w' => e = .returned (.tuple #[txt [], .bool false]) ∧ Below w.heap.size w w' := by
  have hb1 : Below w.heap.size w (w.alloc (.cells #[.int .i64 3] 3)) := (Below.refl _ w).alloc (Nat.le_refl _) _
  go_enter Tryz.func29, Tryz.ntmps29
  go_wp2_with (go_at_call 18; refine (of_nil key (some ⟨w.heap.size, 0, none⟩) 1 1 _).mono ?_; rintro e w3 ⟨rfl, hb3⟩)
  go_ret2
  exact ⟨rfl, hb1.trans (hb3.mono hb1.size)⟩
set_option maxRecDepth 100000 in
theorem registers_nil (w : World) : Calls Tryz.prog 31 #[.pointer none] w fun e w' => (∃ p c, e = .returned (.slice p 0 c)) ∧ Below w.heap.size w w' := by
  have hb1 : Below w.heap.size w (w.alloc (.cells #[.int .i64 3] 3)) := (Below.refl _ w).alloc (Nat.le_refl _) _
  go_enter Tryz.func31, Tryz.ntmps31
  go_wp2_with (go_at_call 21; refine (keys_nil (some ⟨w.heap.size, 0, none⟩) 1 1 _).mono ?_; rintro e w3 ⟨⟨p, c, rfl⟩, hb3⟩)
  go_ret
  exact ⟨⟨_, _, rfl⟩, hb1.trans (hb3.mono hb1.size)⟩
set_option maxRecDepth 100000 in
theorem registers_any (b mo mw mt : Nat) (B : Nat → Prop) (O W : List E3) (T : List (Nm × Nat)) (w : World) (h : DagSet w b mo mw mt B O W T) (hI : DInv ⟨O.map E3.ent, W.map E3.ent⟩) (hL : O.length ≤ 1000000) :
    Calls Tryz.prog 31 #[.pointer (some ⟨b, 0, none⟩)] w fun e w' => ∃ p c, e = .returned (.slice p (keysL (O.map E3.ent) [3]).length c) ∧ w'.ownsRow w.heap.size 9 1 (.slice p (keysL (O.map E3.ent) [3]).length c) (keysL (O.map E3.ent) [3]).length (scs (keysL (O.map E3.ent) [3])) ∧ Below w.heap.size w w' := by
  have hb1 : Below w.heap.size w (w.alloc (.cells #[.int .i64 3] 3)) := (Below.refl _ w).alloc (Nat.le_refl _) _
  have HB1 := Lib.hid hb1
  have HCK := Lib.hid (keys_any [3] (some ⟨w.heap.size, 0, none⟩) 1 b mo mw mt B O W T (w.alloc (.cells #[.int .i64 3] 3)) (h.under hb1) hI hL (src_three w _) (by simp))
  obtain ⟨K, hK⟩ : ∃ K, K = keysL (O.map E3.ent) [3] := ⟨_, rfl⟩
  rw [← hK] at HCK ⊢
  clear h hI hb1 hK
  go_enter Tryz.func31, Tryz.ntmps31
  go_wp2_with (go_at_call 21; refine HCK.out.mono ?_; rintro e w3 ⟨p, c, rfl, ho, hb3⟩)
  go_ret
  exact ⟨p, c, rfl, orow_down ho HB1.out.size, HB1.out.trans (hb3.mono HB1.out.size)⟩
end Go.Proofs.YtfoifdhcelcgiaaGreatDoor

/- tribunalref11.In and Keys: the keys of operations of some kinds, rising, each once. -/
namespace Go.Proofs.YtfoifdhcelcgiaaGreatDoor
open Go Go.RowKit

theorem ints_at {w : World} {p : Option Addr} {zs : List Int} (h : Src w p (zs.map (Value.int .i64))) {n : Nat} (hn : n < zs.length) : ∃ z g off, zs[n]? = some z ∧ p = some ⟨g, off, none⟩ ∧ w.cell? ⟨g, off + n, none⟩ = some (.int .i64 z) := by
  have hx : zs[n]? = some zs[n] := List.getElem?_eq_getElem hn
  obtain ⟨g, off, e, hc⟩ := h.at_ n (.int .i64 zs[n]) (by rw [List.getElem?_map, hx]; rfl)
  exact ⟨zs[n], g, off, hx, e, hc⟩
set_option maxRecDepth 100000 in
set_option maxHeartbeats 4000000 in
theorem rin_any (zs : List Int) (x : Int) (p : Option Addr) (c : Nat) (w : World) (hs : Src w p (zs.map (Value.int .i64))) (hl : zs.length ≤ 1000000000) :
    Calls Tryz.prog 50 #[.slice p zs.length c, .int .i64 x] w fun e w' => e = .returned (.bool (zs.contains x)) ∧ w' = w := by
  have HS := Lib.hid hs
  clear hs
  go_enter Tryz.func50, Tryz.ntmps50
  go_upto_region 2 with fail
  go_loopw [9] (fun i wr => ∃ n : Nat, n ≤ zs.length ∧ i = .int .i64 n ∧ Hid (x ∉ zs.take n) ∧ wr = w) (fun i _ => zs.length - (intOf i).toNat)
  case atStart => exact ⟨0, by omega, rfl, Lib.hid (by simp), rfl⟩
  case round =>
    obtain ⟨n, hn1, rfl, HN, rfl⟩ := hrel
    by_cases hlt : n < zs.length
    · obtain ⟨z, g, off, hz1, hp, hz3⟩ := ints_at HS.out hlt
      subst hp
      have HZ := Lib.hid hz1
      clear hz1
      by_cases hzx : z = x
      · have h1 : (z == x) = true := beq_iff_eq.2 hzx
        have HE := Lib.hid hzx
        clear hzx
        go_wp2
        go_ret
        exact ⟨by rw [show zs.contains x = true from List.elem_eq_true_of_mem (by rw [← HE.out]; exact List.mem_of_getElem? HZ.out)]; rfl, rfl⟩
      · have h1 : (z == x) = false := beq_eq_false_iff_ne.2 hzx
        have HE := Lib.hid hzx
        clear hzx
        go_wp2
        clear h1 hz3
        go_roundw
        case rel =>
          refine ⟨n + 1, by omega, by go_num, Lib.hid (show x ∉ zs.take (n + 1) from fun hm => ?_), by first | rfl | trivial⟩
          rw [List.take_add_one, HZ.out] at hm
          rcases List.mem_append.1 hm with h1 | h1
          · exact HN.out h1
          · have h2 : x = z := by simpa using h1
            exact HE.out h2.symm
        case measure => simp [intOf] <;> omega
    · obtain rfl : n = zs.length := by omega
      go_wp2
      go_ret
      exact ⟨by
        rw [show zs.contains x = false from by
          have h1 := HN.out
          rw [List.take_length] at h1
          simpa using h1]
        rfl, rfl⟩
theorem keysL_own (l : List NOp) (kinds : List Int) : ascL (keysOf l kinds) = keysL l kinds := by
  unfold keysL
  refine ascL_of_mem fun x => ?_
  unfold keysOf
  exact (((rowL_perm l).filter _).map _).mem_iff.symm
set_option maxRecDepth 100000 in
set_option maxHeartbeats 16000000 in
theorem rkeys_any (kinds : List Int) (pk : Option Addr) (ck : Nat) (b : Nat) (vo vw vn vm : Value) (F B : Nat → Prop) (O W : List E3) (w : World) (h : RefSet w b vo vw vn vm F B O W) (hL : O.length ≤ 100000)
    (hsk : Src w pk (kinds.map (Value.int .i64))) (hkl : kinds.length ≤ 1000000000) :
    Calls Tryz.prog 22 #[.pointer (some ⟨b, 0, none⟩), .slice pk kinds.length ck] w fun e w' => ∃ p c, e = .returned (.slice p (keysL (O.map E3.ent) kinds).length c) ∧ Owns w' w.heap.size 9 1 (.slice p (keysL (O.map E3.ent) kinds).length c) (keysL (O.map E3.ent) kinds).length (scs (keysL (O.map E3.ent) kinds)) ∧ Below w.heap.size w w' := by
  obtain ⟨hzo, _⟩ := info_two opZero
  obtain ⟨is, his, hsz0, hsz1, hsz2⟩ := info_parts strInfo
  have HZO := Lib.hid hzo
  obtain ⟨p, cap, hv⟩ := h.ops.form
  subst hv
  have hc0 := h.c0
  have HRS := Lib.hid h.ops.srcOf
  have HS1 := Lib.hid hsk
  have HR38 := Lib.hid (show ∀ e ∈ O, e.cs.length = 38 from fun e he => OpV.cs_length (h.okO e he).ok _ _)
  obtain ⟨l, hl⟩ : ∃ l, l = O.map E3.ent := ⟨_, rfl⟩
  have HL := Lib.hid hl
  rw [← hl]
  clear h hzo hsk hl
  go_enter Tryz.func22, Tryz.ntmps22
  go_upto_region 3 with fail
  clear hc0
  go_loopw [5, 13] (fun v i wr => ∃ (n : Nat) (K : List Tx), n ≤ O.length ∧ i = .int .i64 n ∧ K.length ≤ n ∧ Hid (K = keysOf (l.take n) kinds) ∧ Hid (wr.ownsRow w.heap.size 9 1 v K.length (scs K)) ∧ Hid (Below w.heap.size w wr)) (fun _ i _ => O.length - (intOf i).toNat)
  case atStart => exact ⟨0, [], by omega, rfl, by simp, Lib.hid rfl, Lib.hid (orow_nil _ _ _ _), Lib.hid (Below.refl _ _)⟩
  case round =>
    obtain ⟨n, K, hn1, rfl, hKl, HK, HOW, HB⟩ := hrel
    have hzr := HB.out.size
    by_cases hlt : n < O.length
    · obtain ⟨ex, gx, ox, hx1, hx2, hx3, hpx, hx4⟩ := op_at (HRS.out.below HB.out (Nat.le_refl _)).at_ HR38.out hlt
      subst hpx
      obtain ⟨xo, hxo⟩ : ∃ y, y = ex.o := ⟨_, rfl⟩
      obtain ⟨xp, hxp⟩ : ∃ y, y = ex.p := ⟨_, rfl⟩
      obtain ⟨xc, hxc⟩ : ∃ y, y = ex.c := ⟨_, rfl⟩
      have hcsx : ex.cs = xo.cs xp xc := by rw [hxo, hxp, hxc]; rfl
      have HCx := Lib.hid (show cellsAt wr gx (ox + n * 38) (xo.cs xp xc) by rw [← hcsx]; exact hx4)
      have H38x := Lib.hid (show (xo.cs xp xc).length = 38 by rw [← hcsx]; exact HR38.out ex hx3)
      have HON := Lib.hid (OpV.cs_one xo xp xc)
      have HOZ := Lib.hid (show (zeroOp.cs none 0).toArray.size = (xo.cs xp xc).toArray.size by rw [List.size_toArray, List.size_toArray, H38x.out]; rfl)
      have HTK := Lib.hid (show keysOf (l.take (n + 1)) kinds = K ++ (if kinds.contains xo.d.kind then [xo.d.key] else []) by
        rw [HK.out, HL.out, ← List.map_take, hx2, List.map_append, List.map_cons, List.map_nil, keysOf_snoc, List.map_take, hxo]
        rfl)
      clear hcsx hxo hxp hxc hx1 hx2 hx3 hx4
      go_upto_region 5 with (first
        | (refine wpList_loadAgg _ rfl 46 _ rfl _ Tryz.underlying46 rfl gx (ox + n * 38) (by rfl) (xo.cs xp xc) (by rw [opInfo, H38x.out]) HCx.out ?_)
        | (refine wpList_allocZ _ rfl 46 rfl _ HZO.out ?_)
        | (refine wpList_storeNew _ wr rfl 46 _ _ rfl (zeroOp.cs none 0).toArray rfl (by rfl) (xo.cs xp xc).toArray (by rfl) (by rw [opInfo, List.size_toArray, H38x.out]) HOZ.out (by simpa using HON.out) ?_))
      obtain ⟨w6, hw6⟩ : ∃ w6, w6 = wr.alloc (.cells (xo.cs xp xc).toArray 46) := ⟨_, rfl⟩
      rw [← hw6]
      obtain ⟨k6, hk6⟩ : ∃ k, k = wr.heap.size := ⟨_, rfl⟩
      rw [← hk6]
      have hb6 : Below wr.heap.size wr w6 := by rw [hw6]; exact (Below.refl _ wr).alloc (Nat.le_refl _) _
      have HC6 := Lib.hid (show cellsAt w6 k6 0 (xo.cs xp xc) by rw [hw6, hk6]; simpa using cellsAt_new wr (xo.cs xp xc).toArray 46)
      have hz6 := hb6.size
      have HB6 := Lib.hid (HB.out.trans (hb6.mono hzr))
      have HO6 := Lib.hid (orow_under HOW.out hb6)
      have HS6 := Lib.hid (HS1.out.below HB6.out (Nat.le_refl _))
      clear hw6 hk6 hb6
      have hc0 := (OpV.cs_kind HC6.out).1
      have hc1 := (OpV.cs_kind HC6.out).2.1
      have HCT := Lib.hid (rin_any kinds xo.d.kind pk ck w6 HS6.out hkl)
      by_cases hin : kinds.contains xo.d.kind = true
      · rw [hin] at HCT
        have HK2 := Lib.hid (show K ++ [xo.d.key] = keysOf (l.take (n + 1)) kinds by rw [HTK.out, if_pos hin])
        clear hin HTK
        go_wp2_with (first
          | (go_at_call 50; refine HCT.out.mono ?_; rintro e w7 ⟨rfl, rfl⟩)
          | (at_builtin; refine wpList_append_src rfl _ _ 51 rfl w.heap.size 9 is _ 1 16 Tryz.underlying51 his hsz0 hsz1 hsz2 (by rfl) (by omega) u5 K.length (scs K) (by rfl) (orow_under HO6.out ((Below.refl _ _).alloc (Nat.le_refl _) _)) (some ⟨w7.heap.size, 0, none⟩) 1 1 (scs [xo.d.key]) (by rfl) (by rfl) (src_new w7 (scs [xo.d.key]) 9) (fun a e => by cases e; rfl) (scs_one _) (by unfold maxLen; omega) (by omega) (by rw [World.size_alloc]; omega) ?_; intro v9 w9 hown9 hg9 hs9))
        have HB9 := Lib.hid ((HB6.out.alloc (by omega) (.cells #[txt xo.d.key] 9)).grown hg9 (by rw [World.size_alloc]; omega) (fun k e => (orow_lt HO6.out e).1))
        have HO9 := Lib.hid (show w9.ownsRow w.heap.size 9 1 v9 (K ++ [xo.d.key]).length (scs (K ++ [xo.d.key])) by
          rw [List.length_append]
          simpa [scs] using hown9)
        clear hown9 hg9 hs9 hc0 hc1
        go_roundw
        case rel => exact ⟨n + 1, K ++ [xo.d.key], by omega, by go_num, by simp; omega, HK2, HO9, HB9⟩
        case measure => simp [intOf] <;> omega
      · have hin' : kinds.contains xo.d.kind = false := by simpa using hin
        rw [hin'] at HCT
        have HK2 := Lib.hid (show K = keysOf (l.take (n + 1)) kinds by rw [HTK.out, if_neg hin, List.append_nil])
        clear hin hin' HTK
        go_wp2_with (go_at_call 50; refine HCT.out.mono ?_; rintro e w7 ⟨rfl, rfl⟩)
        clear hc0 hc1
        go_roundw
        case rel => exact ⟨n + 1, K, by omega, by go_num, by omega, HK2, HO6, HB6⟩
        case measure => simp [intOf] <;> omega
    · obtain rfl : n = O.length := by omega
      obtain ⟨p5, c5, hp5⟩ := (Owns.of HOW.out).form
      subst hp5
      have HKE := Lib.hid (show ascL K = keysL l kinds by
        rw [HK.out, List.take_of_length_le (by rw [HL.out, List.length_map]; exact Nat.le_refl _), keysL_own])
      have HCS := Lib.hid (ristx_any K p5 c5 wr (Owns.srcOf (Owns.of HOW.out)) (by omega))
      go_wp2_with (go_at_call 24; refine HCS.out.mono ?_; rintro e w2 ⟨v, rfl, ho2, hb2⟩; obtain ⟨p6, c6, hp6⟩ := ho2.form; subst hp6)
      go_ret
      rw [HKE.out] at ho2 ⊢
      exact ⟨p6, c6, rfl, ho2.down hzr, HB.out.trans (hb2.mono hzr)⟩
end Go.Proofs.YtfoifdhcelcgiaaGreatDoor

/- tribunalref11.Row: the operations in their row: the first of what is left, again and again. -/
namespace Go.Proofs.YtfoifdhcelcgiaaGreatDoor
open Go Go.RowKit

/-- b is what stands first of what is left -/
theorem rowL_first {L : List NOp} (hd : (namesOf L).Nodup) {k : Nat} {b : NOp} (hb : L[k]? = some b) (hm : ∀ x ∈ L, bef x b = false) : rowL L = b :: rowL (L.take k ++ L.drop (k + 1)) := by
  obtain ⟨hk, hx⟩ := List.getElem?_eq_some_iff.1 hb
  have hsp : L = L.take k ++ b :: L.drop (k + 1) := by
    have h1 := List.take_append_drop k L
    rw [List.drop_eq_getElem_cons hk, hx] at h1
    exact h1.symm
  have hp : (b :: (L.take k ++ L.drop (k + 1))).Perm L := by
    have h1 : (L.take k ++ b :: L.drop (k + 1)).Perm (b :: (L.take k ++ L.drop (k + 1))) := List.perm_middle
    rw [← hsp] at h1
    exact h1.symm
  refine (rowL_unique hd (((rowL_perm _).cons b).trans hp) ?_).symm
  refine List.pairwise_cons.2 ⟨fun y hy => hm y (hp.mem_iff.1 (List.mem_cons_of_mem _ (rowL_mem.1 hy))), rowL_pairwise _⟩
theorem names_cut {L : List NOp} (hd : (namesOf L).Nodup) (k : Nat) : (namesOf (L.take k ++ L.drop (k + 1))).Nodup := by
  have hs : (L.take k ++ L.drop (k + 1)).Sublist L := by
    have h1 := (List.Sublist.refl (L.take k)).append (List.drop_sublist_drop_left L (Nat.le_succ k))
    rw [List.take_append_drop] at h1
    exact h1
  exact (hs.map _).nodup hd
theorem ent_cut (L : List E3) (k : Nat) : (L.take k ++ L.drop (k + 1)).map E3.ent = (L.map E3.ent).take k ++ (L.map E3.ent).drop (k + 1) := by
  rw [List.map_append, List.map_take, List.map_drop]
theorem ocs_cut {L : List E3} (h : ∀ e ∈ L, e.cs.length = 38) (k : Nat) : (ocs L).take (k * 38) ++ (ocs L).drop ((k + 1) * 38) = ocs (L.take k ++ L.drop (k + 1)) := by
  have hf : ∀ (L : List E3), (∀ e ∈ L, e.cs.length = 38) → ∀ k, (ocs L).drop (k * 38) = ocs (L.drop k) := by
    intro L
    induction L with
    | nil => intro _ k; simp [ocs]
    | cons e L ih =>
      intro h k
      cases k with
      | zero => simp [ocs]
      | succ k =>
        have h1 := h e (List.mem_cons_self ..)
        have h2 := ih (fun x hx => h x (List.mem_cons_of_mem _ hx)) k
        simp only [ocs, List.flatMap_cons, List.drop_succ_cons] at h2 ⊢
        rw [List.drop_append, h1, List.drop_of_length_le (by omega), List.nil_append, show (k + 1) * 38 - 38 = k * 38 by omega, h2]
  have ht : ∀ (L : List E3), (∀ e ∈ L, e.cs.length = 38) → ∀ k, (ocs L).take (k * 38) = ocs (L.take k) := by
    intro L
    induction L with
    | nil => intro _ k; simp [ocs]
    | cons e L ih =>
      intro h k
      cases k with
      | zero => simp [ocs]
      | succ k =>
        have h1 := h e (List.mem_cons_self ..)
        have h2 := ih (fun x hx => h x (List.mem_cons_of_mem _ hx)) k
        simp only [ocs, List.flatMap_cons, List.take_succ_cons] at h2 ⊢
        rw [List.take_append, h1, List.take_of_length_le (by omega), show (k + 1) * 38 - 38 = k * 38 by omega, h2]
  rw [hf L h, ht L h]
  simp [ocs]
def lenOf : Value → Nat
  | .slice _ n _ => n
  | _ => 0
/-- the least of the first n -/
def MinAt (L : List E3) (n kk : Nat) : Prop := ∃ b, L[kk]? = some b ∧ ∀ x ∈ L.take n, bef x.ent b.ent = false
theorem MinAt.move {L : List E3} {n kk : Nat} {x b : E3} (h : MinAt L n kk) (hx : L[n]? = some x) (hb : L[kk]? = some b) (hlt : bef x.ent b.ent = true) : MinAt L (n + 1) n := by
  obtain ⟨b', hb', hm⟩ := h
  rw [hb] at hb'
  obtain rfl : b = b' := Option.some.inj hb'
  refine ⟨x, hx, fun y hy => ?_⟩
  rw [List.take_add_one, hx] at hy
  rcases List.mem_append.1 hy with h1 | h1
  · have h2 := hm y h1
    have h3 : bef b.ent x.ent = false := by
      rcases bef_or (x := b.ent) (y := x.ent) with h | h
      · exact h
      · rw [hlt] at h; cases h
    exact bef_ntrans h2 h3
  · have : y = x := by simpa using h1
    rw [this]; exact bef_irrefl _
theorem MinAt.stay {L : List E3} {n kk : Nat} {x b : E3} (h : MinAt L n kk) (hx : L[n]? = some x) (hb : L[kk]? = some b) (hlt : bef x.ent b.ent = false) : MinAt L (n + 1) kk := by
  obtain ⟨b', hb', hm⟩ := h
  rw [hb] at hb'
  obtain rfl : b = b' := Option.some.inj hb'
  refine ⟨b, hb, fun y hy => ?_⟩
  rw [List.take_add_one, hx] at hy
  rcases List.mem_append.1 hy with h1 | h1
  · exact hm y h1
  · have : y = x := by simpa using h1
    rw [this]; exact hlt
/-- what is left and what stands in the row -/
structure RowSt (w wr : World) (O Lf Ot : List E3) (vL vO : Value) : Prop where
  left : Owns wr w.heap.size 46 38 vL Lf.length (ocs Lf)
  out : Owns wr w.heap.size 46 38 vO Ot.length (ocs Ot)
  apart : ∀ g, vL.ownBlock = some g → vO.ownBlock ≠ some g
  inL : ∀ e ∈ Lf, e ∈ O
  inO : ∀ e ∈ Ot, e ∈ O
  row : Ot.map E3.ent ++ rowL (Lf.map E3.ent) = rowL (O.map E3.ent)
  nd : (namesOf (Lf.map E3.ent)).Nodup
  below : Below w.heap.size w wr
theorem RowSt.count {w wr : World} {O Lf Ot : List E3} {vL vO : Value} (h : RowSt w wr O Lf Ot vL vO) : Ot.length + Lf.length = O.length := by
  have h1 := congrArg List.length h.row
  simp only [List.length_append, List.length_map, rowL_length] at h1
  exact h1

set_option maxRecDepth 100000 in
set_option maxHeartbeats 16000000 in
theorem rrow_any (b : Nat) (vo vw vn vm : Value) (F B : Nat → Prop) (O W : List E3) (w : World) (h : RefSet w b vo vw vn vm F B O W) (hd : (namesOf (O.map E3.ent)).Nodup) (hnm : ∀ e ∈ O, e.n = nameB e.o) (hL : O.length ≤ 1000) (hT : Tabs w) :
    Calls Tryz.prog 14 #[.pointer (some ⟨b, 0, none⟩)] w fun e w' => ∃ p c R, e = .returned (.slice p R.length c) ∧ R.map E3.ent = rowL (O.map E3.ent) ∧ Owns w' w.heap.size 46 38 (.slice p R.length c) R.length (ocs R) ∧ (∀ e ∈ R, e ∈ O) ∧ Below w.heap.size w w' := by
  obtain ⟨hzo, _⟩ := info_two opZero
  obtain ⟨io, hio, hoz0, hoz1, hoz2⟩ := info_parts opInfo3
  have HZO := Lib.hid hzo
  have HH := Lib.hid h
  have HND := Lib.hid hd
  have HNM := Lib.hid hnm
  have HT := Lib.hid hT
  obtain ⟨p, cap, hv⟩ := h.ops.form
  subst hv
  have HR38 := Lib.hid (show ∀ e ∈ O, e.cs.length = 38 from fun e he => OpV.cs_length (h.okO e he).ok _ _)
  clear h hzo hd hnm hT
  go_enter Tryz.func14, Tryz.ntmps14
  go_upto_region 1 with fail
  refine wp_region_list ?_
  refine wpList_buildNil rfl 35 rfl 46 38 Tryz.underlying35 opInfo ?_
  obtain ⟨wE, hwE⟩ : ∃ wE, wE = w.alloc (.cells #[] 46) := ⟨_, rfl⟩
  rw [← hwE]
  have hbE : Below w.heap.size w wE := by rw [hwE]; exact (Below.refl _ w).alloc (Nat.le_refl _) _
  have HOE := Lib.hid (show Owns wE w.heap.size 46 38 (.slice (some ⟨w.heap.size, 0, none⟩) 0 0) 0 [] by rw [hwE]; exact Owns.newNil w _ _ _ (Nat.le_refl _))
  have HBE := Lib.hid hbE
  have hc0 := (HH.out.under hbE).c0
  have HSE := Lib.hid (HH.out.ops.srcOf.below hbE (Nat.le_refl _))
  have HOL := Lib.hid (show (ocs O).length = O.length * 38 from ocs_len HR38.out)
  have HON := Lib.hid (show ∀ u ∈ ocs O, u.oneCell' = true from fun u hu => by
    obtain ⟨e, _, he2⟩ := List.mem_flatMap.1 hu
    exact OpV.cs_one _ _ _ u he2)
  have hzE := hbE.size
  clear hwE hbE
  go_simp
  go_upto_region 2 with (at_builtin; refine wpList_append_S rfl _ _ 35 rfl w.heap.size 46 io _ 38 112 Tryz.underlying35 hio hoz0 hoz1 hoz2 (by rfl) (by omega) (.slice (some ⟨w.heap.size, 0, none⟩) 0 0) 0 [] (by rfl) HOE.out p O.length cap (ocs O) (by rfl) HOL.out HSE.out HON.out (by unfold maxLen; omega) (by omega) (by omega) ?_; intro v1 w1 hown1 hg1 hs1; simp only [Nat.zero_add, List.nil_append] at hown1)
  clear hc0
  have HST := Lib.hid (show RowSt w w1 O O [] v1 (.slice none 0 0) from ⟨hown1, Owns.nil _ _ _ _, fun g _ h => by simp [Value.ownBlock] at h, fun _ h => h, by simp, by simp, HND.out, HBE.out.grown hg1 HBE.out.size (fun k e => by have e1 : w.heap.size = k := Option.some.inj e; omega)⟩)
  clear hown1 hg1 hs1
  go_upto_region 3 with fail
  go_loopw [3, 4] (fun vL vO wr => ∃ (Lf Ot : List E3), Lf.length ≤ O.length ∧ (∃ pL cL, vL = .slice pL Lf.length cL) ∧ (∃ pO cO, vO = .slice pO Ot.length cO) ∧ Hid (RowSt w wr O Lf Ot vL vO)) (fun vL _ _ => lenOf vL)
  case atStart =>
    obtain ⟨p1, c1, hp1⟩ := HST.out.left.form
    exact ⟨O, [], Nat.le_refl _, ⟨p1, c1, hp1⟩, ⟨none, 0, rfl⟩, HST⟩
  case round =>
    obtain ⟨Lf, Ot, hLl, ⟨pL, cL, rfl⟩, ⟨pO, cO, rfl⟩, HR⟩ := hrel
    have hcount := HR.out.count
    by_cases hlt : 0 < Lf.length
    · have hL38 : ∀ e ∈ Lf, e.cs.length = 38 := fun e he => HR38.out e (HR.out.inL e he)
      have HL38 := Lib.hid hL38
      have HBr := Lib.hid HR.out.below
      have hzr := HBr.out.size
      have HSL := Lib.hid HR.out.left.srcOf
      have HOKr := Lib.hid (show ∀ e ∈ Lf, e.Ok wr B from fun e he => (HH.out.under HBr.out).okO e (HR.out.inL e he))
      have HNL := Lib.hid (show ∀ e ∈ Lf, e.n = nameB e.o from fun e he => HNM.out e (HR.out.inL e he))
      have hgt : decide ((Lf.length : Int) > 0) = true := decide_eq_true (by omega)
      clear hL38
      go_upto_region 6 with fail
      clear hgt
      obtain ⟨wP, hwP⟩ : ∃ x, x = wr := ⟨_, rfl⟩
      subst hwP
      go_loopw [5, 18] (fun k i wq => ∃ (kk n : Nat), n ≤ Lf.length ∧ kk < Lf.length ∧ k = .int .i64 kk ∧ i = .int .i64 n ∧ Hid (MinAt Lf n kk) ∧ Hid (Below wP.heap.size wP wq)) (fun _ i _ => Lf.length - (intOf i).toNat)
      case atStart => exact ⟨0, 0, by omega, hlt, rfl, rfl, Lib.hid (by obtain ⟨b, hb⟩ : ∃ b, Lf[0]? = some b := ⟨_, List.getElem?_eq_getElem hlt⟩; exact ⟨b, hb, by simp⟩), Lib.hid (Below.refl _ _)⟩
      case round =>
        obtain ⟨kk, n, hn1, hkl, rfl, rfl, HMN, HBq⟩ := hrel
        have hzq := HBq.out.size
        by_cases hltn : n < Lf.length
        · obtain ⟨ex, gx, ox, hy1, _, hy3, hpy, hy4⟩ := op_at (HSL.out.below HBq.out (Nat.le_refl _)).at_ HL38.out hltn
          subst hpy
          have HEx := Lib.hid ((HOKr.out ex hy3).keeps HBq.out.size (fun i hi _ => HBq.out.block i hi))
          have HNx := Lib.hid hy1
          have HNNx := Lib.hid (HNL.out ex hy3)
          obtain ⟨xox, hxox⟩ : ∃ y, y = ex.o := ⟨_, rfl⟩
          obtain ⟨xpx, hxpx⟩ : ∃ y, y = ex.p := ⟨_, rfl⟩
          obtain ⟨xcx, hxcx⟩ : ∃ y, y = ex.c := ⟨_, rfl⟩
          have hcsx : ex.cs = xox.cs xpx xcx := by rw [hxox, hxpx, hxcx]; rfl
          have HXOx := Lib.hid hxox
          have HCx := Lib.hid (show cellsAt wr gx (ox + n * 38) (xox.cs xpx xcx) by rw [← hcsx]; exact hy4)
          have H38x := Lib.hid (show (xox.cs xpx xcx).length = 38 by rw [← hcsx]; exact HL38.out ex hy3)
          have HOKx := Lib.hid (show xox.Ok ∧ Src wr xpx (pcs xox.preds) by rw [hxox, hxpx]; exact ⟨HEx.out.ok, HEx.out.src⟩)
          have hlix : (n : Int) < (Lf.length : Int) := by omega
          have hwix : IntKind.i64.wrap (n : Int) = (n : Int) := i64_nat n (by omega)
          have hglx := cellsAt_lt hy4 (by rw [HL38.out ex hy3]; omega)
          clear hcsx hxox hxpx hxcx hy1 hy3 hy4
          obtain ⟨eb, gb, ob, hy1, _, hy3, hpy, hy4⟩ := op_at (HSL.out.below HBq.out (Nat.le_refl _)).at_ HL38.out hkl
          simp only [Option.some.injEq, Addr.mk.injEq, and_true] at hpy
          obtain ⟨rfl, rfl⟩ := hpy
          have HEb := Lib.hid ((HOKr.out eb hy3).keeps HBq.out.size (fun i hi _ => HBq.out.block i hi))
          have HNb := Lib.hid hy1
          have HNNb := Lib.hid (HNL.out eb hy3)
          obtain ⟨xob, hxob⟩ : ∃ y, y = eb.o := ⟨_, rfl⟩
          obtain ⟨xpb, hxpb⟩ : ∃ y, y = eb.p := ⟨_, rfl⟩
          obtain ⟨xcb, hxcb⟩ : ∃ y, y = eb.c := ⟨_, rfl⟩
          have hcsb : eb.cs = xob.cs xpb xcb := by rw [hxob, hxpb, hxcb]; rfl
          have HXOb := Lib.hid hxob
          have HCb := Lib.hid (show cellsAt wr gx (ox + kk * 38) (xob.cs xpb xcb) by rw [← hcsb]; exact hy4)
          have H38b := Lib.hid (show (xob.cs xpb xcb).length = 38 by rw [← hcsb]; exact HL38.out eb hy3)
          have HOKb := Lib.hid (show xob.Ok ∧ Src wr xpb (pcs xob.preds) by rw [hxob, hxpb]; exact ⟨HEb.out.ok, HEb.out.src⟩)
          have hlib : (kk : Int) < (Lf.length : Int) := by omega
          have hwib : IntKind.i64.wrap (kk : Int) = (kk : Int) := i64_nat kk (by omega)
          clear hcsb hxob hxpb hxcb hy1 hy3 hy4
          go_upto_region 8 with fail
          obtain ⟨NV, hNVa, hNVb⟩ : ∃ n, wr.heap.size ≤ n ∧ n ≤ wr.heap.size := ⟨_, Nat.le_refl _, Nat.le_refl _⟩
          refine wp_region_noPanic ?_
          refine wp_region_till 8 (fun w' => Below NV wr w') (by kernel_rfl) (by kernel_rfl) ?_
          obtain ⟨wV, hwV⟩ : ∃ wQQ, wQQ = wr.drew := ⟨_, rfl⟩
          have hSwV : Below NV wr wV := by rw [hwV]; exact (Below.refl NV wr).drew
          rw [← hwV]
          have HSV := Lib.hid hSwV
          have hzwV : wr.heap.size ≤ wV.heap.size := by rw [hwV]; exact Nat.le_refl _
          clear hwV hSwV
          go_simp
          refine Till.pure 0 rfl rfl (by kernel_rfl) (NoPanic.noFrame _) HSV.out ?_
          go_big_quiet_step (fail)
          refine wpQuiet_nil ?_
          refine Till.pure 1 rfl rfl (by kernel_rfl) (NoPanic.noFrame _) HSV.out ?_
          go_big_quiet_step (fail)
          refine wpQuiet_nil ?_
          refine Till.pure 2 rfl rfl (by kernel_rfl) (NoPanic.noFrame _) HSV.out ?_
          go_big_quiet_step (fail)
          refine wpQuiet_nil ?_
          refine Till.load 3 46 _ ⟨gx, ox + n * 38, none⟩ (.agg (xox.cs xpx xcx).toArray) rfl rfl rfl rfl (by kernel_rfl) (NoPanic.noFrame _) HSV.out (fun w' hw' => run_loadAgg Tryz.underlying46 rfl (by rw [opInfo, H38x.out]) (HCx.out.of_block (hw'.block _ (by omega)))) ?_
          go_simp
          refine Till.pure 4 rfl rfl (by kernel_rfl) (NoPanic.noFrame _) HSV.out ?_
          go_big_quiet_step (fail)
          refine wpQuiet_nil ?_
          refine Till.pure 5 rfl rfl (by kernel_rfl) (NoPanic.noFrame _) HSV.out ?_
          go_big_quiet_step (fail)
          refine wpQuiet_nil ?_
          refine Till.pure 6 rfl rfl (by kernel_rfl) (NoPanic.noFrame _) HSV.out ?_
          go_big_quiet_step (fail)
          refine wpQuiet_nil ?_
          refine Till.load 7 46 _ ⟨gx, ox + kk * 38, none⟩ (.agg (xob.cs xpb xcb).toArray) rfl rfl rfl rfl (by kernel_rfl) (NoPanic.noFrame _) HSV.out (fun w' hw' => run_loadAgg Tryz.underlying46 rfl (by rw [opInfo, H38b.out]) (HCb.out.of_block (hw'.block _ (by omega)))) ?_
          go_simp
          have HBwV := Lib.hid (HBq.out.trans ((HSV.out.mono hNVa).mono hzq))
          have hcb := before_any xox xob HOKx.out.1 HOKb.out.1 xpx xpb xcx xcb wV (HT.out.of_below (HBr.out.trans (HBwV.out.mono hzr)) HT.out.2.2) (HOKx.out.2.below HSV.out hNVa) (HOKb.out.2.below HSV.out hNVa)
          have HBE2 := Lib.hid (show befO xox xob = bef ex.ent eb.ent by unfold befO E3.ent; rw [HNNx.out, HNNb.out, HXOx.out, HXOb.out])
          clear hlix hlib hwix hwib
          by_cases hbf : bef ex.ent eb.ent = true
          · rw [HBE2.out, hbf] at hcb
            have HCB := Lib.hid hcb
            have HMV := Lib.hid (HMN.out.move HNx.out HNb.out hbf)
            clear hcb hbf
            refine Till.tail _ rfl rfl (by kernel_rfl) (by kernel_rfl) ?_
            go_wp2_with (go_at_call 34; refine HCB.out.mono ?_; rintro e wA ⟨rfl, hbA⟩)
            refine NoPanic.normal ?_
            have HFIN := Lib.hid (HBwV.out.trans (hbA.mono HBwV.out.size))
            clear hbA
            go_wp2
            go_roundw
            case rel => exact ⟨n, n + 1, by omega, hltn, rfl, by go_num, HMV, HFIN⟩
            case measure => simp [intOf] <;> omega
          · have hbf' : bef ex.ent eb.ent = false := by simpa using hbf
            rw [HBE2.out, hbf'] at hcb
            have HCB := Lib.hid hcb
            have HMV := Lib.hid (HMN.out.stay HNx.out HNb.out hbf')
            clear hcb hbf hbf'
            refine Till.tail _ rfl rfl (by kernel_rfl) (by kernel_rfl) ?_
            go_wp2_with (go_at_call 34; refine HCB.out.mono ?_; rintro e wA ⟨rfl, hbA⟩)
            refine NoPanic.normal ?_
            have HFIN := Lib.hid (HBwV.out.trans (hbA.mono HBwV.out.size))
            clear hbA
            go_wp2
            go_roundw
            case rel => exact ⟨kk, n + 1, by omega, hkl, rfl, by go_num, HMV, HFIN⟩
            case measure => simp [intOf] <;> omega
        · obtain rfl : n = Lf.length := by omega
          obtain ⟨ex, gx, ox, hy1, _, hy3, hpy, hy4⟩ := op_at (HSL.out.below HBq.out (Nat.le_refl _)).at_ HL38.out hkl
          subst hpy
          have HEx := Lib.hid ((HOKr.out ex hy3).keeps HBq.out.size (fun i hi _ => HBq.out.block i hi))
          have HNx := Lib.hid hy1
          have HNNx := Lib.hid (HNL.out ex hy3)
          obtain ⟨xox, hxox⟩ : ∃ y, y = ex.o := ⟨_, rfl⟩
          obtain ⟨xpx, hxpx⟩ : ∃ y, y = ex.p := ⟨_, rfl⟩
          obtain ⟨xcx, hxcx⟩ : ∃ y, y = ex.c := ⟨_, rfl⟩
          have hcsx : ex.cs = xox.cs xpx xcx := by rw [hxox, hxpx, hxcx]; rfl
          have HXOx := Lib.hid hxox
          have HCx := Lib.hid (show cellsAt wr gx (ox + kk * 38) (xox.cs xpx xcx) by rw [← hcsx]; exact hy4)
          have H38x := Lib.hid (show (xox.cs xpx xcx).length = 38 by rw [← hcsx]; exact HL38.out ex hy3)
          have HOKx := Lib.hid (show xox.Ok ∧ Src wr xpx (pcs xox.preds) by rw [hxox, hxpx]; exact ⟨HEx.out.ok, HEx.out.src⟩)
          have hlix : (kk : Int) < (Lf.length : Int) := by omega
          have hwix : IntKind.i64.wrap (kk : Int) = (kk : Int) := i64_nat kk (by omega)
          have hglx := cellsAt_lt hy4 (by rw [HL38.out ex hy3]; omega)
          have HMX := Lib.hid hy3
          have HON2 := Lib.hid (OpV.cs_one xox xpx xcx)
          have HEQ := Lib.hid (show (ocs [ex]) = xox.cs xpx xcx by rw [← hcsx]; simp [ocs])
          have HFST := Lib.hid (show rowL (Lf.map E3.ent) = ex.ent :: rowL ((Lf.take kk ++ Lf.drop (kk + 1)).map E3.ent) from by
            rw [ent_cut]
            obtain ⟨b', hb', hm⟩ := HMN.out
            rw [hy1] at hb'
            obtain rfl : ex = b' := Option.some.inj hb'
            refine rowL_first HR.out.nd (by rw [List.getElem?_map, hy1]; rfl) fun x hx => ?_
            obtain ⟨e3, he3, rfl⟩ := List.mem_map.1 hx
            exact hm e3 (by rw [List.take_length]; exact he3))
          clear hcsx hxox hxpx hxcx hy1 hy3 hy4
          have HOUT := Lib.hid (HR.out.out.under HBq.out)
          have HBwr := Lib.hid (HBr.out.trans (HBq.out.mono hzr))
          go_upto_region 12 with (first
            | (refine wpList_loadAgg _ rfl 46 _ rfl _ Tryz.underlying46 rfl gx (ox + kk * 38) (by rfl) (xox.cs xpx xcx) (by rw [opInfo, H38x.out]) HCx.out ?_)
            | (refine wpList_buildOne _ rfl 35 _ rfl 46 38 _ Tryz.underlying35 opInfo (by omega) (by omega) HZO.out (xox.cs xpx xcx).toArray (by rfl) (by rw [List.size_toArray, H38x.out]) ?_)
            | (at_builtin; refine wpList_append_G rfl _ _ 35 rfl w.heap.size 46 io _ 38 112 Tryz.underlying35 hio hoz0 hoz1 hoz2 (by rfl) (by omega) (.slice pO Ot.length cO) Ot.length (ocs Ot) (by rfl) (HOUT.out.alloc _) (some ⟨wr.heap.size, 0, none⟩) 1 1 (xox.cs xpx xcx) (by rfl) (by rw [H38x.out]) (src_new wr (xox.cs xpx xcx) 46) (fun a e => by cases e; rfl) HON2.out (by unfold maxLen; omega) (by omega) (by rw [World.size_alloc]; omega) ?_; intro v9 w9 hown9 hg9 hs9))
          obtain ⟨pQ, cQ, hpQ⟩ := hown9.form
          subst hpQ
          have HO9 := Lib.hid (show Owns w9 w.heap.size 46 38 (.slice pQ (Ot.length + 1) cQ) (Ot ++ [ex]).length (ocs (Ot ++ [ex])) by
            have e1 : ocs (Ot ++ [ex]) = ocs Ot ++ xox.cs xpx xcx := by rw [ocs_append, HEQ.out]
            rw [e1, List.length_append]
            exact hown9)
          have HBq9 := Lib.hid (show Below w.heap.size w w9 from (HBwr.out.alloc HBwr.out.size _).grown hg9 (by rw [World.size_alloc]; omega) (fun k e => (HR.out.out.lt e).1))
          have hz9 := hg9.size
          rw [World.size_alloc] at hz9
          have hkeepL : ∀ g, (Value.slice (some ⟨gx, ox, none⟩) Lf.length cL).ownBlock = some g → w9.heap[g]? = wP.heap[g]? := fun g hg => by
            have h1 := (HR.out.left.lt hg).2
            have h2 := HR.out.apart g hg
            exact (hg9.block g (by rw [World.size_alloc]; omega) (fun e => h2 e.symm)).trans (((MapKept.heap_alloc _ _).2 _ (by omega)).trans (HBq.out.block g h1))
          have HL9 := Lib.hid (HR.out.left.keep hkeepL)
          have HSL9 := Lib.hid HL9.out.srcOf
          have HCAP := Lib.hid HL9.out.cap_le
          have hglx9 : gx < w9.heap.size := by omega
          have hs9' : ∀ g, (Value.slice pQ (Ot.length + 1) cQ).ownBlock = some g → g < w9.heap.size := fun g hg => (hown9.lt hg).2
          have HS9 := Lib.hid hs9'
          have HLN := Lib.hid (show (ocs Lf).length = Lf.length * 38 from ocs_len HL38.out)
          have HONL := Lib.hid (show ∀ u ∈ ocs Lf, u.oneCell' = true from fun u hu => by
            obtain ⟨e, _, he2⟩ := List.mem_flatMap.1 hu
            exact OpV.cs_one _ _ _ u he2)
          obtain ⟨L3, hL3⟩ : ∃ L, L = Lf.take kk ++ Lf.drop (kk + 1) := ⟨_, rfl⟩
          have HL3 := Lib.hid hL3
          have hL3l : L3.length = kk + (Lf.length - (kk + 1)) := by rw [hL3, List.length_append, List.length_take, List.length_drop]; omega
          have HER := Lib.hid (show (ocs Lf).take (kk * 38) ++ (ocs Lf).drop ((kk + 1) * 38) = ocs L3 by rw [hL3]; exact ocs_cut HL38.out kk)
          clear hown9 hg9 hs9 hkeepL hs9' hL3 hlix hwix
          obtain ⟨NV, hNVa, hNVb⟩ : ∃ n, w9.heap.size ≤ n ∧ n ≤ w9.heap.size := ⟨_, Nat.le_refl _, Nat.le_refl _⟩
          refine wp_region_noPanic ?_
          refine wp_region_till 10 (fun w' => Below NV w9 w') (by kernel_rfl) (by kernel_rfl) ?_
          obtain ⟨wV, hwV⟩ : ∃ wQQ, wQQ = w9.drew := ⟨_, rfl⟩
          have hSwV : Below NV w9 wV := by rw [hwV]; exact (Below.refl NV w9).drew
          rw [← hwV]
          have HSV := Lib.hid hSwV
          have hzwV : w9.heap.size ≤ wV.heap.size := by rw [hwV]; exact Nat.le_refl _
          clear hwV hSwV
          go_simp
          refine Till.pure 1 rfl rfl (by kernel_rfl) (NoPanic.noFrame _) HSV.out ?_
          go_big_quiet_step (fail)
          refine wpQuiet_nil ?_
          refine Till.pure 2 rfl rfl (by kernel_rfl) (NoPanic.noFrame _) HSV.out ?_
          go_big_quiet_step (fail)
          refine wpQuiet_nil ?_
          refine Till.hi 3 35 _ _ rfl rfl rfl 46 38 Tryz.underlying35 opInfo (some ⟨gx, ox, none⟩) Lf.length cL kk .i64 (by rfl) (by rfl) (by have := HCAP.out; omega) (fun a e => by cases e; rfl) (by kernel_rfl) (NoPanic.noFrame _) HSV.out ?_
          go_simp
          refine Till.pure 5 rfl rfl (by kernel_rfl) (NoPanic.noFrame _) HSV.out ?_
          go_big_quiet_step (fail)
          refine wpQuiet_nil ?_
          refine Till.pure 6 rfl rfl (by kernel_rfl) (NoPanic.noFrame _) HSV.out ?_
          go_big_quiet_step (fail)
          refine wpQuiet_nil ?_
          refine Till.pure 7 rfl rfl (by kernel_rfl) (NoPanic.noFrame _) HSV.out ?_
          go_big_quiet_step (fail)
          refine wpQuiet_nil ?_
          refine Till.lo 8 35 _ _ rfl rfl rfl 46 38 Tryz.underlying35 opInfo (some ⟨gx, ox, none⟩) Lf.length cL (kk + 1) .i64 _ ?_ rfl rfl (by omega) (by kernel_rfl) (NoPanic.noFrame _) HSV.out ?_
          · first | omega | go_num | (simp; done)
          go_simp
          refine Till.act 0 rfl rfl (by kernel_rfl) rfl ?_
          intro K hK
          refine wp_buildNil 35 rfl 46 38 Tryz.underlying35 opInfo ?_
          have hSb := HSV.out.alloc (by omega) (.cells #[] 46)
          have hOb := Owns.newNil wV w.heap.size 46 38 (by omega)
          obtain ⟨wB, hwB⟩ : ∃ wB, wB = wV.alloc (.cells #[] 46) := ⟨_, rfl⟩
          rw [← hwB] at hSb hOb ⊢
          have hzB : wV.heap.size < wB.heap.size := by rw [hwB]; simp
          clear hwB
          refine hK _ _ hSb ?_
          clear hK K
          go_simp
          refine Till.act 4 rfl rfl (by kernel_rfl) rfl ?_
          intro K hK
          refine wp_append_G _ _ 35 rfl w.heap.size 46 io _ 38 112 Tryz.underlying35 hio hoz0 hoz1 hoz2 (by rfl) (by omega) (.slice (some ⟨wV.heap.size, 0, none⟩) 0 0) 0 [] (by rfl) hOb (some ⟨gx, ox, none⟩) kk cL ((ocs Lf).take (kk * 38)) (by rfl) (by rw [List.length_take, HLN.out]; exact Nat.min_eq_left (by omega)) ((HSL9.out.below hSb hNVa).at_.take _) (fun a e => by cases e; rfl) (fun u hu => HONL.out u (List.mem_of_mem_take hu)) (by unfold maxLen; omega) (by omega) (by omega) ?_
          intro v1 w1 ho1 hg1 ha1
          rw [Nat.zero_add, List.nil_append] at ho1
          have hz1 := hg1.size
          have hS1 := hSb.grown hg1 (by omega) (fun k e => by have e2 : wV.heap.size = k := Option.some.inj e; omega)
          obtain ⟨p1, c1, rfl⟩ := ho1.form
          have hb1 : ∀ g, (Value.slice p1 kk c1).ownBlock = some g → NV ≤ g := fun g hg => by
            rcases ha1 with h | h
            · rw [h] at hg; have e2 : wV.heap.size = g := Option.some.inj hg; omega
            · rw [h] at hg; have := Option.some.inj hg; omega
          clear hg1 ha1 hOb
          refine hK _ _ hS1 ?_
          clear hK K
          go_simp
          refine Till.act 9 rfl rfl (by kernel_rfl) rfl ?_
          intro K hK
          refine wp_append_G _ _ 35 rfl w.heap.size 46 io _ 38 112 Tryz.underlying35 hio hoz0 hoz1 hoz2 (by rfl) (by omega) (.slice p1 kk c1) kk ((ocs Lf).take (kk * 38)) (by rfl) ho1 (loP (some ⟨gx, ox, none⟩) cL (kk + 1) 38) (Lf.length - (kk + 1)) (cL - (kk + 1)) ((ocs Lf).drop ((kk + 1) * 38)) (by rfl) (by rw [List.length_drop, HLN.out]; omega) (loP_src (by omega) HCAP.out.1 HLN.out (HSL9.out.below hS1 hNVa).at_ (fun a e => by cases e; rfl)) (loP_spot (fun a e => by cases e; rfl)) (fun u hu => HONL.out u (List.mem_of_mem_drop hu)) (by unfold maxLen; omega) (by omega) (by omega) ?_
          intro v2 w2 ho2 hg2 ha2
          rw [HER.out, ← hL3l] at ho2
          have hz2 := hg2.size
          have hS2 := hS1.grown hg2 (by omega) hb1
          obtain ⟨p2, c2, rfl⟩ := ho2.form
          have HAT := Lib.hid (show ∀ g, (Value.slice p2 L3.length c2).ownBlock = some g → NV ≤ g from fun g hg => by
            rcases ha2 with h | h
            · rw [h] at hg; exact hb1 g hg
            · rw [h] at hg; have := Option.some.inj hg; omega)
          refine hK _ _ hS2 ?_
          clear hK K
          have HS2 := Lib.hid hS2
          have HOW := Lib.hid ho2
          clear hg2 ha2 ho1 hb1 hSb hS1 hS2 ho2
          have HB29 := Lib.hid (HS2.out.mono hNVa)
          go_simp
          refine Till.tail _ rfl rfl (by kernel_rfl) (by kernel_rfl) ?_
          go_wp2
          refine NoPanic.normal ?_
          have HFIN := Lib.hid (show RowSt w w2 O L3 (Ot ++ [ex]) (.slice p2 L3.length c2) (.slice pQ (Ot.length + 1) cQ) from ⟨HOW.out, HO9.out.under HB29.out, fun g hg hg' => by have h1 := HAT.out g hg; have h2 := HS9.out g hg'; omega, fun e he => by
            rw [HL3.out] at he
            rcases List.mem_append.1 he with h1 | h1
            · exact HR.out.inL e (List.mem_of_mem_take h1)
            · exact HR.out.inL e (List.mem_of_mem_drop h1), fun e he => by
            rcases List.mem_append.1 he with h1 | h1
            · exact HR.out.inO e h1
            · rw [List.mem_singleton.1 h1]; exact HR.out.inL ex HMX.out, by
            have h1 := HR.out.row
            rw [HFST.out, ← HL3.out] at h1
            rw [List.map_append, List.append_assoc]
            exact h1, by rw [HL3.out, ent_cut]; exact names_cut HR.out.nd kk, HBq9.out.trans (HB29.out.mono HBq9.out.size)⟩)
          go_wp2
          go_roundw
          case rel => exact ⟨L3, Ot ++ [ex], by omega, ⟨p2, c2, by rw [hL3l]⟩, ⟨pQ, cQ, by simp⟩, (by rw [← hL3l]; exact HFIN)⟩
          case measure => simp [lenOf] <;> omega
    · obtain rfl : Lf = [] := List.eq_nil_of_length_eq_zero (by omega)
      have HRW := Lib.hid (show Ot.map E3.ent = rowL (O.map E3.ent) from by
        have h1 := HR.out.row
        simpa [rowL] using h1)
      go_wp2
      go_ret
      exact ⟨_, _, Ot, rfl, HRW.out, HR.out.out, HR.out.inO, HR.out.below⟩
end Go.Proofs.YtfoifdhcelcgiaaGreatDoor

/- tribunalref11.Of: those of a key and some kinds. tribunalref09.SameAll: two rows of operations are the same. -/
namespace Go.Proofs.YtfoifdhcelcgiaaGreatDoor
open Go Go.RowKit

set_option maxRecDepth 100000 in
set_option maxHeartbeats 16000000 in
theorem rof11_any (key : Tx) (kinds : List Int) (pk : Option Addr) (ck : Nat) (b : Nat) (vo vw vn vm : Value) (F B : Nat → Prop) (O W : List E3) (w : World) (h : RefSet w b vo vw vn vm F B O W) (hd : (namesOf (O.map E3.ent)).Nodup) (hnm : ∀ e ∈ O, e.n = nameB e.o) (hL : O.length ≤ 1000) (hT : Tabs w)
    (hsk : Src w pk (kinds.map (Value.int .i64))) (hkl : kinds.length ≤ 1000000000) :
    Calls Tryz.prog 19 #[.pointer (some ⟨b, 0, none⟩), txt key, .slice pk kinds.length ck] w fun e w' => ∃ p c R, e = .returned (.slice p R.length c) ∧ R.map E3.ent = (rowL (O.map E3.ent)).filter (pickO key kinds) ∧ Owns w' w.heap.size 46 38 (.slice p R.length c) R.length (ocs R) ∧ (∀ e ∈ R, e ∈ O) ∧ Below w.heap.size w w' := by
  obtain ⟨hzo, _⟩ := info_two opZero
  obtain ⟨io, hio, hoz0, hoz1, hoz2⟩ := info_parts opInfo3
  have HZO := Lib.hid hzo
  have HH := Lib.hid h
  have HCR := Lib.hid (rrow_any b vo vw vn vm F B O W w h hd hnm hL hT)
  have HS1 := Lib.hid hsk
  have HO38 := Lib.hid (show ∀ e ∈ O, e.cs.length = 38 from fun e he => OpV.cs_length (h.okO e he).ok _ _)
  obtain ⟨l, hl⟩ : ∃ l, l = O.map E3.ent := ⟨_, rfl⟩
  have hll : l.length ≤ 1000 := by rw [hl, List.length_map]; exact hL
  rw [← hl] at HCR ⊢
  clear h hzo hd hnm hT hsk hl
  go_enter Tryz.func19, Tryz.ntmps19
  go_upto_region 3 with (go_at_call 14; refine HCR.out.mono ?_; rintro e w1 ⟨p0, c0, R0, rfl, hRE, hR0, hRO, hb1⟩)
  have HB1 := Lib.hid hb1
  have HRE := Lib.hid hRE
  have HRS := Lib.hid hR0.srcOf
  have HRO := Lib.hid hRO
  have hRl : R0.length ≤ 1000 := by
    have h1 := congrArg List.length hRE
    rw [List.length_map, rowL_length] at h1
    omega
  have hz1 := hb1.size
  clear hb1 hRE hR0 hRO
  go_loopw [7, 13] (fun v i wr => ∃ (n : Nat) (Q : List E3), n ≤ R0.length ∧ i = .int .i64 n ∧ Q.length ≤ n ∧ Hid (Q = (R0.take n).filter fun e => pickO key kinds e.ent) ∧ Hid (Owns wr w1.heap.size 46 38 v Q.length (ocs Q)) ∧ Hid (Below w1.heap.size w1 wr)) (fun _ i _ => R0.length - (intOf i).toNat)
  case atStart => exact ⟨0, [], by omega, rfl, by simp, Lib.hid rfl, Lib.hid (Owns.nil _ _ _ _), Lib.hid (Below.refl _ _)⟩
  case round =>
    obtain ⟨n, Q, hn1, rfl, hQl, HQ, HOW, HB⟩ := hrel
    have hzr := HB.out.size
    by_cases hlt : n < R0.length
    · obtain ⟨ex, gx, ox, hx1, _, hx3, hpx, hx4⟩ := op_at (HRS.out.below HB.out (Nat.le_refl _)).at_ (fun e he => HO38.out e (HRO.out e he)) hlt
      subst hpx
      obtain ⟨xo, hxo⟩ : ∃ y, y = ex.o := ⟨_, rfl⟩
      obtain ⟨xp, hxp⟩ : ∃ y, y = ex.p := ⟨_, rfl⟩
      obtain ⟨xc, hxc⟩ : ∃ y, y = ex.c := ⟨_, rfl⟩
      have hcs : ex.cs = xo.cs xp xc := by rw [hxo, hxp, hxc]; rfl
      have HCx := Lib.hid (show cellsAt wr gx (ox + n * 38) (xo.cs xp xc) by rw [← hcs]; exact hx4)
      have H38x := Lib.hid (show (xo.cs xp xc).length = 38 by rw [← hcs]; exact HO38.out ex (HRO.out ex hx3))
      have HON := Lib.hid (OpV.cs_one xo xp xc)
      have HOZ := Lib.hid (show (zeroOp.cs none 0).toArray.size = (xo.cs xp xc).toArray.size by rw [List.size_toArray, List.size_toArray, H38x.out]; rfl)
      have HEQ := Lib.hid (show (ocs [ex]) = xo.cs xp xc by rw [← hcs]; simp [ocs])
      have HTK := Lib.hid (show (R0.take (n + 1)).filter (fun e => pickO key kinds e.ent) = Q ++ (if pickO key kinds ex.ent then [ex] else []) by
        rw [List.take_add_one, hx1, List.filter_append, ← HQ.out]
        cases hp : pickO key kinds ex.ent <;> simp [hp])
      have HPE := Lib.hid (show pickO key kinds ex.ent = (decide (xo.d.key = key) && kinds.contains xo.d.kind) by rw [hxo]; rfl)
      clear hcs hxo hxp hxc hx1 hx3 hx4
      go_upto_region 5 with (first
        | (refine wpList_loadAgg _ rfl 46 _ rfl _ Tryz.underlying46 rfl gx (ox + n * 38) (by rfl) (xo.cs xp xc) (by rw [opInfo, H38x.out]) HCx.out ?_)
        | (refine wpList_allocZ _ rfl 46 rfl _ HZO.out ?_)
        | (refine wpList_storeNew _ wr rfl 46 _ _ rfl (zeroOp.cs none 0).toArray rfl (by rfl) (xo.cs xp xc).toArray (by rfl) (by rw [opInfo, List.size_toArray, H38x.out]) HOZ.out (by simpa using HON.out) ?_))
      obtain ⟨w6, hw6⟩ : ∃ w6, w6 = wr.alloc (.cells (xo.cs xp xc).toArray 46) := ⟨_, rfl⟩
      rw [← hw6]
      obtain ⟨k6, hk6⟩ : ∃ k, k = wr.heap.size := ⟨_, rfl⟩
      rw [← hk6]
      have hb6 : Below wr.heap.size wr w6 := by rw [hw6]; exact (Below.refl _ wr).alloc (Nat.le_refl _) _
      have hC6 : cellsAt w6 k6 0 (xo.cs xp xc) := by rw [hw6, hk6]; simpa using cellsAt_new wr (xo.cs xp xc).toArray 46
      have HC6 := Lib.hid hC6
      have HB6 := Lib.hid (HB.out.trans (hb6.mono hzr))
      have hz6 := hb6.size
      have HO6 := Lib.hid (HOW.out.under hb6)
      have HS6 := Lib.hid (HS1.out.below (HB1.out.trans (HB6.out.mono hz1)) (Nat.le_refl _))
      have hc0 := (OpV.cs_kind hC6).1
      have hc1 := (OpV.cs_kind hC6).2.1
      obtain ⟨xk, hxk⟩ : ∃ y, y = xo.d.kind := ⟨_, rfl⟩
      obtain ⟨xt, hxt⟩ : ∃ y, y = xo.d.key := ⟨_, rfl⟩
      rw [← hxk] at hc0 HPE
      rw [← hxt] at hc1 HPE
      have HCT := Lib.hid (rin_any kinds xk pk ck w6 HS6.out hkl)
      clear hw6 hk6 hb6 hC6 hxk hxt
      by_cases h2 : xt = key
      · have e2 : (xt == key) = true := beq_iff_eq.2 h2
        have e2' : ((⟨xt.toArray⟩ : ByteArray).toList == (⟨key.toArray⟩ : ByteArray).toList) = true := by rw [h2]; simp
        by_cases hin : kinds.contains xk = true
        · rw [hin] at HCT
          have HQ2 := Lib.hid (show Q ++ [ex] = (R0.take (n + 1)).filter (fun e => pickO key kinds e.ent) by rw [HTK.out, HPE.out, hin, decide_eq_true h2]; rfl)
          clear hin h2 HTK HPE
          go_upto_region 6 with (go_at_call 50; refine HCT.out.mono ?_; rintro e w7 ⟨rfl, rfl⟩)
          clear hc0 hc1 e2 e2'
          obtain ⟨pQ, cQ, hpQ⟩ := HO6.out.form
          go_wp2_with (first
            | (refine wpList_loadAgg _ rfl 46 _ rfl _ Tryz.underlying46 rfl k6 0 (by rfl) (xo.cs xp xc) (by rw [opInfo, H38x.out]) HC6.out ?_)
            | (refine wpList_buildOne _ rfl 35 _ rfl 46 38 _ Tryz.underlying35 opInfo (by omega) (by omega) HZO.out (xo.cs xp xc).toArray (by rfl) (by rw [List.size_toArray, H38x.out]) ?_)
            | (at_builtin; refine wpList_append_G rfl _ _ 35 rfl w1.heap.size 46 io _ 38 112 Tryz.underlying35 hio hoz0 hoz1 hoz2 (by rfl) (by omega) u7 Q.length (ocs Q) (by rfl) (HO6.out.alloc _) (some ⟨w7.heap.size, 0, none⟩) 1 1 (xo.cs xp xc) (by rfl) (by rw [H38x.out]) (src_new w7 (xo.cs xp xc) 46) (fun a e => by cases e; rfl) HON.out (by unfold maxLen; omega) (by omega) (by rw [World.size_alloc]; omega) ?_; intro v9 w9 hown9 hg9 hs9))
          have HB9 := Lib.hid ((HB6.out.alloc HB6.out.size (.cells (xo.cs xp xc).toArray 46)).grown hg9 (by rw [World.size_alloc]; omega) (fun k e => (HO6.out.lt e).1))
          have HO9 := Lib.hid (show Owns w9 w1.heap.size 46 38 v9 (Q ++ [ex]).length (ocs (Q ++ [ex])) by
            have e1 : ocs (Q ++ [ex]) = ocs Q ++ xo.cs xp xc := by rw [ocs_append, HEQ.out]
            rw [e1, List.length_append]
            exact hown9)
          clear hown9 hg9 hs9
          go_roundw
          case rel => exact ⟨n + 1, Q ++ [ex], by omega, by go_num, by simp; omega, HQ2, HO9, HB9⟩
          case measure => simp [intOf] <;> omega
        · have hin' : kinds.contains xk = false := by simpa using hin
          rw [hin'] at HCT
          have HQ2 := Lib.hid (show Q = (R0.take (n + 1)).filter (fun e => pickO key kinds e.ent) by rw [HTK.out, HPE.out, hin']; simp)
          clear hin hin' h2 HTK HPE
          go_wp2_with (go_at_call 50; refine HCT.out.mono ?_; rintro e w7 ⟨rfl, rfl⟩)
          clear hc0 hc1 e2 e2'
          go_roundw
          case rel => exact ⟨n + 1, Q, by omega, by go_num, by omega, HQ2, HO6, HB6⟩
          case measure => simp [intOf] <;> omega
      · have e2 : (xt == key) = false := beq_eq_false_iff_ne.2 h2
        have e2' : ((⟨xt.toArray⟩ : ByteArray).toList == (⟨key.toArray⟩ : ByteArray).toList) = false := by
          rw [ByteArray.toList_eq, ByteArray.toList_eq, beq_eq_false_iff_ne]
          exact h2
        have HQ2 := Lib.hid (show Q = (R0.take (n + 1)).filter (fun e => pickO key kinds e.ent) by rw [HTK.out, HPE.out, decide_eq_false h2]; simp)
        clear h2 HTK HPE
        go_wp2
        clear hc0 hc1 e2 e2'
        go_roundw
        case rel => exact ⟨n + 1, Q, by omega, by go_num, by omega, HQ2, HO6, HB6⟩
        case measure => simp [intOf] <;> omega
    · obtain rfl : n = R0.length := by omega
      obtain ⟨p5, c5, hp5⟩ := HOW.out.form
      subst hp5
      have HQE := Lib.hid (show Q.map E3.ent = (rowL l).filter (pickO key kinds) by
        rw [HQ.out, List.take_length, filter_ent, HRE.out])
      have HQM := Lib.hid (show ∀ e ∈ Q, e ∈ O from fun e he => by
        rw [HQ.out] at he
        exact HRO.out e (List.mem_of_mem_take (List.mem_filter.1 he).1))
      go_wp2
      go_ret
      exact ⟨p5, c5, Q, rfl, HQE.out, HOW.out.down hz1, HQM.out, HB1.out.trans (HB.out.mono hz1)⟩

set_option maxRecDepth 100000 in
set_option maxHeartbeats 8000000 in
theorem sameall_any (X Y : List E3) (p q : Option Addr) (c d : Nat) (BX BY : Nat → Prop) (w : World) (hX : Src w p (ocs X)) (hY : Src w q (ocs Y)) (hxo : ∀ e ∈ X, e.Ok w BX) (hyo : ∀ e ∈ Y, e.Ok w BY) (he : X.map (·.o) = Y.map (·.o)) (hXl : X.length ≤ 1000000) :
    Calls Tryz.prog 15 #[.slice p X.length c, .slice q Y.length d] w fun e w' => e = .returned (.bool true) ∧ Below w.heap.size w w' := by
  have hl : Y.length = X.length := by
    have h1 := congrArg List.length he
    rw [List.length_map, List.length_map] at h1
    exact h1.symm
  rw [hl]
  have HX := Lib.hid hX
  have HY := Lib.hid hY
  have HXO := Lib.hid hxo
  have HYO := Lib.hid hyo
  have HE := Lib.hid he
  have HYl := Lib.hid hl
  have HX38 := Lib.hid (show ∀ e ∈ X, e.cs.length = 38 from fun e he => OpV.cs_length (hxo e he).ok _ _)
  have HY38 := Lib.hid (show ∀ e ∈ Y, e.cs.length = 38 from fun e he => OpV.cs_length (hyo e he).ok _ _)
  have hne : ((X.length : Int) != (X.length : Int)) = false := by simp
  clear hX hY hxo hyo he hl
  go_enter Tryz.func15, Tryz.ntmps15
  go_upto_region 4 with fail
  clear hne
  go_loopw [13] (fun i wr => ∃ n : Nat, n ≤ X.length ∧ i = .int .i64 n ∧ Hid (Below w.heap.size w wr)) (fun i _ => X.length - (intOf i).toNat)
  case atStart => exact ⟨0, by omega, rfl, Lib.hid (Below.refl _ _)⟩
  case round =>
    obtain ⟨n, hn1, rfl, HB⟩ := hrel
    have hzr := HB.out.size
    by_cases hlt : n < X.length
    · obtain ⟨ex, gx, ox, hx1, _, hx3, hpx, hx4⟩ := op_at (HX.out.below HB.out (Nat.le_refl _)).at_ HX38.out (hlt)
      subst hpx
      have HEx := Lib.hid ((HXO.out ex hx3).keeps HB.out.size (fun i hi _ => HB.out.block i hi))
      have hglx := cellsAt_lt hx4 (by rw [HX38.out ex hx3]; omega)
      obtain ⟨xox, hxox⟩ : ∃ y, y = ex.o := ⟨_, rfl⟩
      obtain ⟨xpx, hxpx⟩ : ∃ y, y = ex.p := ⟨_, rfl⟩
      obtain ⟨xcx, hxcx⟩ : ∃ y, y = ex.c := ⟨_, rfl⟩
      have hcsx : ex.cs = xox.cs xpx xcx := by rw [hxox, hxpx, hxcx]; rfl
      have HCx := Lib.hid (show cellsAt wr gx (ox + n * 38) (xox.cs xpx xcx) by rw [← hcsx]; exact hx4)
      have H38x := Lib.hid (show (xox.cs xpx xcx).length = 38 by rw [← hcsx]; exact HX38.out ex hx3)
      have HOKx := Lib.hid (show xox.Ok ∧ Src wr xpx (pcs xox.preds) by rw [hxox, hxpx]; exact ⟨HEx.out.ok, HEx.out.src⟩)
      obtain ⟨ey, gy, oy, hy1, _, hy3, hpy, hy4⟩ := op_at (HY.out.below HB.out (Nat.le_refl _)).at_ HY38.out (show n < Y.length by rw [HYl.out]; exact hlt)
      subst hpy
      have HEy := Lib.hid ((HYO.out ey hy3).keeps HB.out.size (fun i hi _ => HB.out.block i hi))
      have hgly := cellsAt_lt hy4 (by rw [HY38.out ey hy3]; omega)
      obtain ⟨xoy, hxoy⟩ : ∃ y, y = ey.o := ⟨_, rfl⟩
      obtain ⟨xpy, hxpy⟩ : ∃ y, y = ey.p := ⟨_, rfl⟩
      obtain ⟨xcy, hxcy⟩ : ∃ y, y = ey.c := ⟨_, rfl⟩
      have hcsy : ey.cs = xoy.cs xpy xcy := by rw [hxoy, hxpy, hxcy]; rfl
      have HCy := Lib.hid (show cellsAt wr gy (oy + n * 38) (xoy.cs xpy xcy) by rw [← hcsy]; exact hy4)
      have H38y := Lib.hid (show (xoy.cs xpy xcy).length = 38 by rw [← hcsy]; exact HY38.out ey hy3)
      have HOKy := Lib.hid (show xoy.Ok ∧ Src wr xpy (pcs xoy.preds) by rw [hxoy, hxpy]; exact ⟨HEy.out.ok, HEy.out.src⟩)
      have HEQ := Lib.hid (show xox = xoy by
        have h1 := congrArg (fun L => L[n]?) HE.out
        simp only [List.getElem?_map, hx1, hy1, Option.map_some, Option.some.injEq] at h1
        rw [hxox, hxoy, h1])
      have hli : (n : Int) < (X.length : Int) := by omega
      have hwi : IntKind.i64.wrap (n : Int) = (n : Int) := i64_nat n (by omega)
      clear hcsx hxox hxpx hxcx hcsy hxoy hxpy hxcy hx1 hx3 hx4 hy1 hy3 hy4
      go_upto_region 6 with fail
      obtain ⟨NV, hNVa, hNVb⟩ : ∃ n, wr.heap.size ≤ n ∧ n ≤ wr.heap.size := ⟨_, Nat.le_refl _, Nat.le_refl _⟩
      refine wp_region_noPanic ?_
      refine wp_region_till 9 (fun w' => Below NV wr w') (by kernel_rfl) (by kernel_rfl) ?_
      obtain ⟨wV, hwV⟩ : ∃ wQQ, wQQ = wr.drew := ⟨_, rfl⟩
      have hSwV : Below NV wr wV := by rw [hwV]; exact (Below.refl NV wr).drew
      rw [← hwV]
      have HSV := Lib.hid hSwV
      have hzwV : wr.heap.size ≤ wV.heap.size := by rw [hwV]; exact Nat.le_refl _
      clear hwV hSwV
      go_simp
      refine Till.pure 0 rfl rfl (by kernel_rfl) (NoPanic.noFrame _) HSV.out ?_
      go_big_quiet_step (fail)
      refine wpQuiet_nil ?_
      refine Till.pure 1 rfl rfl (by kernel_rfl) (NoPanic.noFrame _) HSV.out ?_
      go_big_quiet_step (fail)
      refine wpQuiet_nil ?_
      refine Till.pure 2 rfl rfl (by kernel_rfl) (NoPanic.noFrame _) HSV.out ?_
      go_big_quiet_step (fail)
      refine wpQuiet_nil ?_
      refine Till.load 3 46 _ ⟨gx, ox + n * 38, none⟩ (.agg (xox.cs xpx xcx).toArray) rfl rfl rfl rfl (by kernel_rfl) (NoPanic.noFrame _) HSV.out (fun w' hw' => run_loadAgg Tryz.underlying46 rfl (by rw [opInfo, H38x.out]) (HCx.out.of_block (hw'.block _ (by omega)))) ?_
      go_simp
      refine Till.pure 4 rfl rfl (by kernel_rfl) (NoPanic.noFrame _) HSV.out ?_
      go_big_quiet_step (fail)
      refine wpQuiet_nil ?_
      refine Till.pure 5 rfl rfl (by kernel_rfl) (NoPanic.noFrame _) HSV.out ?_
      go_big_quiet_step (fail)
      refine wpQuiet_nil ?_
      refine Till.pure 6 rfl rfl (by kernel_rfl) (NoPanic.noFrame _) HSV.out ?_
      go_big_quiet_step (fail)
      refine wpQuiet_nil ?_
      refine Till.load 7 46 _ ⟨gy, oy + n * 38, none⟩ (.agg (xoy.cs xpy xcy).toArray) rfl rfl rfl rfl (by kernel_rfl) (NoPanic.noFrame _) HSV.out (fun w' hw' => run_loadAgg Tryz.underlying46 rfl (by rw [opInfo, H38y.out]) (HCy.out.of_block (hw'.block _ (by omega)))) ?_
      go_simp
      have hcb := same_any xox xoy HOKx.out.1 HOKy.out.1 xpx xpy xcx xcy wV (HOKx.out.2.below HSV.out hNVa) (HOKy.out.2.below HSV.out hNVa)
      rw [decide_eq_true HEQ.out] at hcb
      have HCB := Lib.hid hcb
      clear hcb hli hwi
      refine Till.act 8 rfl rfl (by kernel_rfl) rfl ?_
      intro K hK
      go_wp2_with (go_at_call 23; refine HCB.out.mono ?_; rintro e wA ⟨rfl, hbA⟩)
      have hzA := hbA.size
      have hSA := HSV.out.trans (hbA.mono (by omega))
      refine hK _ _ hSA ?_
      clear hK K
      go_simp
      have HSA := Lib.hid hSA
      clear hSA hbA
      refine Till.tail _ rfl rfl (by kernel_rfl) (by kernel_rfl) ?_
      have HFIN := Lib.hid (HB.out.trans ((HSA.out.mono hNVa).mono hzr))
      go_wp2
      refine NoPanic.normal ?_
      go_wp2
      go_roundw
      case rel => exact ⟨n + 1, by omega, by go_num, HFIN⟩
      case measure => simp [intOf] <;> omega
    · obtain rfl : n = X.length := by omega
      go_wp2
      go_ret
      exact ⟨rfl, HB.out⟩
end Go.Proofs.YtfoifdhcelcgiaaGreatDoor
