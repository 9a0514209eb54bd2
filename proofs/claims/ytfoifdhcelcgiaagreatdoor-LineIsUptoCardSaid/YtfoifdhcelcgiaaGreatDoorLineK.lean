/-
  line.Keys: the keys of operations of some kinds, rising, each once.
-/
import Derived.Test.YtfoifdhcelcgiaaGreatDoorLineR
import Derived.Test.YtfoifdhcelcgiaaGreatDoorStr
import Derived.Test.YtfoifdhcelcgiaaGreatDoorJi
namespace Go.Proofs.YtfoifdhcelcgiaaGreatDoor
open Go Go.RowKit
open Go.Lib (compact)

def pickK (kinds : List Int) (e : NOp) : Bool := kinds.contains e.2.d.kind
def keysOf (l : List NOp) (kinds : List Int) : List Tx := (l.filter (pickK kinds)).map (·.2.d.key)
def keysL (l : List NOp) (kinds : List Int) : List Tx := ascL (keysOf (rowL l) kinds)
theorem keysOf_snoc (l : List NOp) (e : NOp) (kinds : List Int) : keysOf (l ++ [e]) kinds = keysOf l kinds ++ (if pickK kinds e then [e.2.d.key] else []) := by
  unfold keysOf
  rw [List.filter_append, List.map_append]
  by_cases h : pickK kinds e = true <;> simp [h]
theorem keysOf_len (l : List NOp) (kinds : List Int) : (keysOf l kinds).length ≤ l.length := by
  unfold keysOf
  rw [List.length_map]
  exact List.length_filter_le _ _
theorem keysL_mem {l : List NOp} {kinds : List Int} {k : Tx} : k ∈ keysL l kinds ↔ ∃ e ∈ l, pickK kinds e = true ∧ e.2.d.key = k := by
  unfold keysL keysOf
  rw [ascL_mem, List.mem_map]
  constructor
  · rintro ⟨e, he, rfl⟩
    have h := List.mem_filter.1 he
    exact ⟨e, rowL_mem.1 h.1, h.2, rfl⟩
  · rintro ⟨e, he, h, rfl⟩
    exact ⟨e, List.mem_filter.2 ⟨rowL_mem.2 he, h⟩, rfl⟩
theorem keysL_len (l : List NOp) (kinds : List Int) : (keysL l kinds).length ≤ l.length := Nat.le_trans (ascL_len _) (Nat.le_trans (keysOf_len _ _) (by rw [rowL_length]; exact Nat.le_refl _))
theorem OpV.cs_kind {o : OpV} {w : World} {g : Nat} {p : Option Addr} {c : Nat} (h : cellsAt w g 0 (o.cs p c)) : w.cell? ⟨g, 0, none⟩ = some (.int .i64 o.d.kind) ∧ w.cell? ⟨g, 1, none⟩ = some (txt o.d.key) ∧ w.cell? ⟨g, 2, none⟩ = some (txt o.d.value) := by
  have hd := OpV.cs_d h
  exact ⟨by simpa using hd 0 _ rfl, by simpa using hd 1 _ rfl, by simpa using hd 2 _ rfl⟩

set_option maxRecDepth 100000 in
set_option maxHeartbeats 16000000 in
theorem keys_any (kinds : List Int) (pk : Option Addr) (ck : Nat) (b mo mw mt : Nat) (B : Nat → Prop) (O W : List E3) (T : List (Nm × Nat)) (w : World) (h : DagSet w b mo mw mt B O W T) (hI : DInv ⟨O.map E3.ent, W.map E3.ent⟩) (hL : O.length ≤ 1000000)
    (hs : Src w pk (kinds.map (Value.int .i64))) (hkl : kinds.length ≤ 1000000000) :
    Calls Tryz.prog 21 #[.pointer (some ⟨b, 0, none⟩), .slice pk kinds.length ck] w fun e w' => ∃ p c, e = .returned (.slice p (keysL (O.map E3.ent) kinds).length c) ∧ w'.ownsRow w.heap.size 9 1 (.slice p (keysL (O.map E3.ent) kinds).length c) (keysL (O.map E3.ent) kinds).length (scs (keysL (O.map E3.ent) kinds)) ∧ Below w.heap.size w w' := by
  obtain ⟨hzo, _⟩ := info_two opZero
  obtain ⟨is, his, hsz0, hsz1, hsz2⟩ := info_parts strInfo
  have HZO := Lib.hid hzo
  have HCR := Lib.hid (row_any b mo mw mt B O W T w h hI hL)
  have HS := Lib.hid hs
  obtain ⟨l, hl⟩ : ∃ l, l = O.map E3.ent := ⟨_, rfl⟩
  have hll : l.length ≤ 1000000 := by rw [hl, List.length_map]; exact hL
  rw [← hl] at HCR ⊢
  clear hzo h hI hL hs hl
  go_enter Tryz.func21, Tryz.ntmps21
  go_wp2_with (go_at_call 16; refine HCR.out.mono ?_; rintro e w1 ⟨vR, R, BR, rfl, hRE, hRO⟩; obtain ⟨pR, cR, hpR⟩ := hRO.own.form; subst hpR)
  have hz1 := hRO.below.size
  have HB1 := Lib.hid hRO.below
  have HRE := Lib.hid hRE
  have HRS := Lib.hid hRO.own.srcOf
  have HR38 := Lib.hid hRO.cs38
  have HRl := Lib.hid (show R.length = l.length by rw [← rowL_length l, ← HRE.out, List.length_map])
  have hRl2 : R.length ≤ 1000000 := by rw [HRl.out]; exact hll
  have HS1 := Lib.hid (HS.out.below HB1.out (Nat.le_refl _))
  clear hRO hRE
  go_loopw [5, 11] (fun v i wr => ∃ (n : Nat) (K : List Tx), n ≤ R.length ∧ i = .int .i64 n ∧ K.length ≤ n ∧ Hid (K = keysOf ((rowL l).take n) kinds) ∧ Hid (wr.ownsRow w1.heap.size 9 1 v K.length (scs K)) ∧ Hid (Below w1.heap.size w1 wr)) (fun _ i _ => R.length - (intOf i).toNat)
  case atStart => exact ⟨0, [], by omega, rfl, by simp, Lib.hid rfl, Lib.hid (orow_nil _ _ _ _), Lib.hid (Below.refl _ _)⟩
  case round =>
    obtain ⟨n, K, hn1, rfl, hKl, HK, HOW, HB⟩ := hrel
    have hzr := HB.out.size
    by_cases hlt : n < R.length
    · obtain ⟨ex, gx, ox, hx1, hx2, hx3, hpx, hx4⟩ := op_at (HRS.out.below HB.out (Nat.le_refl _)).at_ HR38.out hlt
      subst hpx
      obtain ⟨xo, hxo⟩ : ∃ y, y = ex.o := ⟨_, rfl⟩
      obtain ⟨xp, hxp⟩ : ∃ y, y = ex.p := ⟨_, rfl⟩
      obtain ⟨xc, hxc⟩ : ∃ y, y = ex.c := ⟨_, rfl⟩
      have hcsx : ex.cs = xo.cs xp xc := by rw [hxo, hxp, hxc]; rfl
      have HCx := Lib.hid (show cellsAt wr gx (ox + n * 38) (xo.cs xp xc) by rw [← hcsx]; exact hx4)
      have H38x := Lib.hid (show (xo.cs xp xc).length = 38 by rw [← hcsx]; exact HR38.out ex hx3)
      have HON := Lib.hid (OpV.cs_one xo xp xc)
      have HOZ := Lib.hid (show (zeroOp.cs none 0).toArray.size = (xo.cs xp xc).toArray.size by rw [List.size_toArray, List.size_toArray, H38x.out]; rfl)
      have HTK := Lib.hid (show keysOf ((rowL l).take (n + 1)) kinds = K ++ (if kinds.contains xo.d.kind then [xo.d.key] else []) by
        rw [HK.out, ← HRE.out, ← List.map_take, hx2, List.map_append, List.map_cons, List.map_nil, keysOf_snoc, List.map_take, hxo]
        rfl)
      clear hcsx hxo hxp hxc hx1 hx2 hx3 hx4
      go_upto_region 5 with (first
        | (refine wpList_loadAgg _ rfl 46 _ rfl _ Tryz.underlying46 rfl gx (ox + n * 38) (by rfl) (xo.cs xp xc) (by rw [opInfo, H38x.out]) HCx.out ?_)
        | (refine wpList_allocZ _ rfl 46 rfl _ HZO.out ?_)
        | (refine wpList_storeNew _ wr rfl 46 _ _ rfl (zeroOp.cs none 0).toArray rfl (by rfl) (xo.cs xp xc).toArray (by rfl) (by rw [opInfo, List.size_toArray, H38x.out]) HOZ.out (by simpa using HON.out) ?_))
      obtain ⟨w6, hw6⟩ : ∃ w6, w6 = wr.alloc (.cells (xo.cs xp xc).toArray 46) := ⟨_, rfl⟩
      rw [← hw6]
      obtain ⟨k6, hk6⟩ : ∃ k, k = wr.heap.size := ⟨_, rfl⟩
      rw [← hk6]
      have hb6 : Below wr.heap.size wr w6 := by rw [hw6]; exact (Below.refl _ wr).alloc (Nat.le_refl _) _
      have HC6 := Lib.hid (show cellsAt w6 k6 0 (xo.cs xp xc) by rw [hw6, hk6]; simpa using cellsAt_new wr (xo.cs xp xc).toArray 46)
      have hz6 := hb6.size
      have HB6 := Lib.hid (HB.out.trans (hb6.mono hzr))
      have HO6 := Lib.hid (orow_under HOW.out hb6)
      have HS6 := Lib.hid (HS1.out.below HB6.out (Nat.le_refl _))
      clear hw6 hk6 hb6
      have hc0 := (OpV.cs_kind HC6.out).1
      have hc1 := (OpV.cs_kind HC6.out).2.1
      have HCT := Lib.hid (containsI_any kinds xo.d.kind pk ck w6 HS6.out hkl)
      by_cases hin : kinds.contains xo.d.kind = true
      · rw [hin] at HCT
        have HK2 := Lib.hid (show K ++ [xo.d.key] = keysOf ((rowL l).take (n + 1)) kinds by rw [HTK.out, if_pos hin])
        clear hin HTK
        go_wp2_with (first
          | (go_at_call 49; refine HCT.out.mono ?_; rintro e w7 ⟨rfl, rfl⟩)
          | (at_builtin; refine wpList_append_src rfl _ _ 51 rfl w1.heap.size 9 is _ 1 16 Tryz.underlying51 his hsz0 hsz1 hsz2 (by rfl) (by omega) u5 K.length (scs K) (by rfl) (orow_under HO6.out ((Below.refl _ _).alloc (Nat.le_refl _) _)) (some ⟨w7.heap.size, 0, none⟩) 1 1 (scs [xo.d.key]) (by rfl) (by rfl) (src_new w7 (scs [xo.d.key]) 9) (fun a e => by cases e; rfl) (scs_one _) (by unfold maxLen; omega) (by omega) (by rw [World.size_alloc]; omega) ?_; intro v9 w9 hown9 hg9 hs9))
        have HB9 := Lib.hid ((HB6.out.alloc (by omega) (.cells #[txt xo.d.key] 9)).grown hg9 (by rw [World.size_alloc]; omega) (fun k e => (orow_lt HO6.out e).1))
        have HO9 := Lib.hid (show w9.ownsRow w1.heap.size 9 1 v9 (K ++ [xo.d.key]).length (scs (K ++ [xo.d.key])) by
          rw [List.length_append]
          simpa [scs] using hown9)
        clear hown9 hg9 hs9 hc0 hc1
        go_roundw
        case rel => exact ⟨n + 1, K ++ [xo.d.key], by omega, by go_num, by simp; omega, HK2, HO9, HB9⟩
        case measure => simp [intOf] <;> omega
      · have hin' : kinds.contains xo.d.kind = false := by simpa using hin
        rw [hin'] at HCT
        have HK2 := Lib.hid (show K = keysOf ((rowL l).take (n + 1)) kinds by rw [HTK.out, if_neg hin, List.append_nil])
        clear hin hin' HTK
        go_wp2_with (go_at_call 49; refine HCT.out.mono ?_; rintro e w7 ⟨rfl, rfl⟩)
        clear hc0 hc1
        go_roundw
        case rel => exact ⟨n + 1, K, by omega, by go_num, by omega, HK2, HO6, HB6⟩
        case measure => simp [intOf] <;> omega
    · obtain rfl : n = R.length := by omega
      obtain ⟨p5, c5, hp5⟩ := (Owns.of HOW.out).form
      subst hp5
      have HKE := Lib.hid (show compact (tsort K) = keysL l kinds by
        rw [HK.out, List.take_of_length_le (by rw [rowL_length, HRl.out]; exact Nat.le_refl _)]
        rfl)
      have htl : (tsort K).length = K.length := (tsort_perm K).length_eq
      have HCS := Lib.hid (sortT_any K p5 c5 w1.heap.size wr HOW.out (by omega))
      go_wp2_with (first
        | (go_at_call 51; refine HCS.out.mono ?_; rintro e w2 ⟨rfl, ho2, hb2⟩; rw [← htl] at ho2; have HCC := Lib.hid (compactT_any (tsort K) p5 c5 w1.heap.size w2 ho2 (by omega)); rw [htl] at HCC)
        | (go_at_call 52; refine HCC.out.mono ?_; rintro e w3 ⟨rfl, ho3, hb3⟩))
      go_ret
      rw [HKE.out] at ho3 ⊢
      exact ⟨p5, c5, rfl, orow_down ho3 hz1, HB1.out.trans ((HB.out.trans (hb2.trans hb3)).mono hz1)⟩
end Go.Proofs.YtfoifdhcelcgiaaGreatDoor
