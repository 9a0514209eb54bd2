/-
  views.Members: values that were added and not dropped, rising.
-/
import Derived.Test.YtfoifdhcelcgiaaGreatDoorMemC
namespace Go.Proofs.YtfoifdhcelcgiaaGreatDoor
open Go Go.RowKit
open Go.Lib (compact)

/-- the values K that a set holds: each was added; and all that was added, where none knows of another -/
structure MemV (l : List NOp) (key : Tx) (K : List Tx) : Prop where
  real : ∀ v ∈ K, ∃ e ∈ l, pickO key [1] e = true ∧ e.2.d.value = v
  all : (∀ n x, ¬ Anc l n x) → K = ((rowL l).filter (pickO key [1])).map (·.2.d.value)
  len : K.length ≤ l.length
/-- of the first n -/
def MemQ (l R : List NOp) (n : Nat) (K : List Tx) : Prop := (∀ v ∈ K, ∃ e ∈ R.take n, e.2.d.value = v) ∧ ((∀ m x, ¬ Anc l m x) → K = (R.take n).map (·.2.d.value))
theorem MemQ.zero (l R : List NOp) : MemQ l R 0 [] := ⟨by simp, fun _ => by simp⟩
theorem MemQ.add {l R : List NOp} {n : Nat} {K : List Tx} {e : NOp} (h : MemQ l R n K) (he : R[n]? = some e) : MemQ l R (n + 1) (K ++ [e.2.d.value]) := by
  have ht : R.take (n + 1) = R.take n ++ [e] := by rw [List.take_add_one, he]; rfl
  refine ⟨fun v hv => ?_, fun hn => ?_⟩
  · rw [ht]
    rcases List.mem_append.1 hv with h1 | h1
    · obtain ⟨e', he', h2⟩ := h.1 v h1
      exact ⟨e', List.mem_append.2 (.inl he'), h2⟩
    · exact ⟨e, by simp, (List.mem_singleton.1 h1).symm⟩
  · rw [ht, h.2 hn, List.map_append]
    rfl
theorem MemQ.skip {l R : List NOp} {n : Nat} {K : List Tx} {e : NOp} (h : MemQ l R n K) (he : R[n]? = some e) (ha : ∃ m x, Anc l m x) : MemQ l R (n + 1) K := by
  have ht : R.take (n + 1) = R.take n ++ [e] := by rw [List.take_add_one, he]; rfl
  refine ⟨fun v hv => ?_, fun hn => ?_⟩
  · obtain ⟨e', he', h2⟩ := h.1 v hv
    exact ⟨e', by rw [ht]; exact List.mem_append.2 (.inl he'), h2⟩
  · obtain ⟨m, x, h1⟩ := ha
    exact absurd h1 (hn m x)
theorem MemQ.memV {l : List NOp} {key : Tx} {n : Nat} {K : List Tx} (h : MemQ l ((rowL l).filter (pickO key [1])) n K) (hn : n = ((rowL l).filter (pickO key [1])).length) (hK : K.length ≤ n) : MemV l key K := by
  have ht : ((rowL l).filter (pickO key [1])).take n = (rowL l).filter (pickO key [1]) := List.take_of_length_le (by omega)
  refine ⟨fun v hv => ?_, fun ha => ?_, ?_⟩
  · obtain ⟨e, he, h2⟩ := h.1 v hv
    rw [ht] at he
    exact ⟨e, rowL_mem.1 (List.mem_filter.1 he).1, (List.mem_filter.1 he).2, h2⟩
  · have := h.2 ha
    rwa [ht] at this
  · have h2 := List.length_filter_le (pickO key [1]) (rowL l)
    rw [rowL_length] at h2
    omega
theorem src_kind (w : World) (a : Int) (t : TypeId) : Src (w.alloc (.cells #[.int .i64 a] t)) (some ⟨w.heap.size, 0, none⟩) ([a].map (Value.int .i64)) := ⟨fun j u hj => ⟨w.heap.size, 0, rfl, by
  rw [Nat.zero_add, World.cell?_alloc_new]
  simpa using hj⟩⟩

set_option maxRecDepth 100000 in
set_option maxHeartbeats 16000000 in
theorem members_any (key : Tx) (b mo mw mt : Nat) (B : Nat → Prop) (O W : List E3) (T : List (Nm × Nat)) (w : World) (h : DagSet w b mo mw mt B O W T) (hI : DInv ⟨O.map E3.ent, W.map E3.ent⟩) (hL : O.length ≤ 1000) (hT : Tabs w) :
    Calls Tryz.prog 27 #[.pointer (some ⟨b, 0, none⟩), txt key] w fun e w' => ∃ p c K, e = .returned (.slice p (ascL K).length c) ∧ w'.ownsRow w.heap.size 9 1 (.slice p (ascL K).length c) (ascL K).length (scs (ascL K)) ∧ MemV (O.map E3.ent) key K ∧ Below w.heap.size w w' := by
  obtain ⟨hz, hid⟩ := info_two idInfo
  obtain ⟨hzo, _⟩ := info_two opZero
  obtain ⟨is, his, hsz0, hsz1, hsz2⟩ := info_parts strInfo
  have HI := Lib.hid hid
  have HZ := Lib.hid hz
  have HZO := Lib.hid hzo
  have HT := Lib.hid hT
  have HD := Lib.hid h
  have HIN := Lib.hid hI
  obtain ⟨w1, hw1⟩ : ∃ w1, w1 = w.alloc (.cells #[.pointer (some ⟨b, 0, none⟩)] 24) := ⟨_, rfl⟩
  obtain ⟨ks, hks⟩ : ∃ k, k = w.heap.size := ⟨_, rfl⟩
  have hb1 : Below w.heap.size w w1 := by rw [hw1]; exact (Below.refl _ w).alloc (Nat.le_refl _) _
  have hz1 := hb1.size
  have HB1 := Lib.hid hb1
  have hks1 : ks < w1.heap.size := by rw [hw1, hks]; simp
  have hcs : w1.cell? ⟨ks, 0, none⟩ = some (.pointer (some ⟨b, 0, none⟩)) := by rw [hw1, hks]; simp
  have HCS := Lib.hid hcs
  have eg : ∀ args w, (callFunc 55 args).run Tryz.prog w = .ok (.enter 55 args) w := enters_of Tryz.func55 (by kernel_rfl) rfl
  have HEG := Lib.hid eg
  have HOF := Lib.hid (fun (kinds : List Int) (pk : Option Addr) (ck : Nat) (wz : World) (hb : Below w.heap.size w wz) (hs : Src wz pk (kinds.map (Value.int .i64))) (hk : kinds.length ≤ 1000000000) => lineOf_any key kinds pk ck b mo mw mt B O W T wz (HD.out.under hb) HIN.out (by omega) hs hk)
  clear hz hid hzo hT h hI hb1 eg
  go_enter Tryz.func27, Tryz.ntmps27
  go_upto_region 2 with fail
  rw [← hw1, ← hks]
  rw [← hks] at HB1 HOF hz1
  have HKS := Lib.hid hks
  clear hw1 hks
  go_wp2_with fail
  refine (HOF.out [2] (some ⟨w1.heap.size, 0, none⟩) 1 (w1.alloc (.cells #[.int .i64 2] 3)) (HB1.out.alloc (by omega) _) (src_kind w1 2 _) (by simp)).mono ?_
  rintro e w3 ⟨vD, D, BD, rfl, hDE, hDO⟩
  obtain ⟨pD, cD, hpD⟩ := hDO.own.form
  subst hpD
  have HB13 := Lib.hid (show Below w1.heap.size w1 w3 from ((Below.refl _ w1).alloc (Nat.le_refl _) _).trans (hDO.below.mono (by simp)))
  have hz3 := HB13.out.size
  have hcs3 : w3.cell? ⟨ks, 0, none⟩ = some (.pointer (some ⟨b, 0, none⟩)) := (HB13.out.cell (p := ⟨ks, 0, none⟩) hks1).trans HCS.out
  have HBw3 := Lib.hid (HB1.out.trans (HB13.out.mono (by omega)))
  clear hcs
  go_wp2_with fail
  refine (HOF.out [1] (some ⟨w3.heap.size, 0, none⟩) 1 (w3.alloc (.cells #[.int .i64 1] 3)) (HBw3.out.alloc (by omega) _) (src_kind w3 1 _) (by simp)).mono ?_
  rintro e w4 ⟨vA, A, BA, rfl, hAE, hAO⟩
  obtain ⟨pA, cA, hpA⟩ := hAO.own.form
  subst hpA
  have HB34 := Lib.hid (show Below w3.heap.size w3 w4 from ((Below.refl _ w3).alloc (Nat.le_refl _) _).trans (hAO.below.mono (by simp)))
  have hz4 := HB34.out.size
  have HBw4 := Lib.hid (HBw3.out.trans (HB34.out.mono (by omega)))
  have HCS4 := Lib.hid ((HB34.out.cell (p := ⟨ks, 0, none⟩) (by show ks < _; omega)).trans hcs3)
  have HSD := Lib.hid ((Owns.srcOf hDO.own).below HB34.out (Nat.le_refl _))
  have HD38 := Lib.hid hDO.cs38
  have HDOK := Lib.hid (show ∀ e ∈ D, e.Ok w4 BD from fun e he => (hDO.okR e he).keeps hz4 (fun i hi _ => HB34.out.block i hi))
  have HSA := Lib.hid (Owns.srcOf hAO.own)
  have HA38 := Lib.hid hAO.cs38
  have HAOK := Lib.hid hAO.okR
  have HAE := Lib.hid hAE
  have hDl : D.length ≤ 1000 := by
    have h1 := congrArg List.length hDE
    rw [List.length_map] at h1
    have h2 := List.length_filter_le (pickO key [2]) (rowL (O.map E3.ent))
    rw [rowL_length, List.length_map] at h2
    omega
  have hAl : A.length ≤ 1000 := by
    have h1 := congrArg List.length hAE
    rw [List.length_map] at h1
    have h2 := List.length_filter_le (pickO key [1]) (rowL (O.map E3.ent))
    rw [rowL_length, List.length_map] at h2
    omega
  clear hDE hDO hAE hAO hcs3
  go_upto_region 4 with fail
  go_loopw [5, 20] (fun v i wr => ∃ (n : Nat) (K : List Tx), n ≤ A.length ∧ i = .int .i64 n ∧ K.length ≤ n ∧ Hid (MemQ (O.map E3.ent) (A.map E3.ent) n K) ∧ Hid (wr.ownsRow w4.heap.size 9 1 v K.length (scs K)) ∧ Hid (Below w4.heap.size w4 wr)) (fun _ i _ => A.length - (intOf i).toNat)
  case atStart => exact ⟨0, [], by omega, rfl, by simp, Lib.hid (MemQ.zero _ _), Lib.hid (orow_nil _ _ _ _), Lib.hid (Below.refl _ _)⟩
  case round =>
    obtain ⟨n, K, hn1, rfl, hKl, HK, HOW, HB⟩ := hrel
    have hzr := HB.out.size
    by_cases hlt : n < A.length
    · obtain ⟨ex, gx, ox, hx1, _, hx3, hpx, hx4⟩ := op_at (HSA.out.below HB.out (Nat.le_refl _)).at_ HA38.out hlt
      subst hpx
      have HEX := Lib.hid ((HAOK.out ex hx3).keeps HB.out.size (fun i hi _ => HB.out.block i hi))
      obtain ⟨xo, hxo⟩ : ∃ y, y = ex.o := ⟨_, rfl⟩
      obtain ⟨xp, hxp⟩ : ∃ y, y = ex.p := ⟨_, rfl⟩
      obtain ⟨xc, hxc⟩ : ∃ y, y = ex.c := ⟨_, rfl⟩
      have hcs : ex.cs = xo.cs xp xc := by rw [hxo, hxp, hxc]; rfl
      have HEn := Lib.hid (show (A.map E3.ent)[n]? = some (ex.n, xo) by rw [List.getElem?_map, hx1, hxo]; rfl)
      have HCx := Lib.hid (show cellsAt wr gx (ox + n * 38) (xo.cs xp xc) by rw [← hcs]; exact hx4)
      have H38x := Lib.hid (show (xo.cs xp xc).length = 38 by rw [← hcs]; exact HA38.out ex hx3)
      have HXOK := Lib.hid (show xo.Ok ∧ Src wr xp (pcs xo.preds) by rw [hxo, hxp]; exact ⟨HEX.out.ok, HEX.out.src⟩)
      have HON := Lib.hid (OpV.cs_one xo xp xc)
      have HOZ := Lib.hid (show (zeroOp.cs none 0).toArray.size = (xo.cs xp xc).toArray.size by rw [List.size_toArray, List.size_toArray, H38x.out]; rfl)
      clear hcs hxo hxp hxc hx1 hx3 hx4
      go_upto_region 6 with (first
        | (refine wpList_loadAgg _ rfl 46 _ rfl _ Tryz.underlying46 rfl gx (ox + n * 38) (by rfl) (xo.cs xp xc) (by rw [opInfo, H38x.out]) HCx.out ?_)
        | (refine wpList_allocZ _ rfl 46 rfl _ HZO.out ?_)
        | (refine wpList_storeNew _ wr rfl 46 _ _ rfl (zeroOp.cs none 0).toArray rfl (by rfl) (xo.cs xp xc).toArray (by rfl) (by rw [opInfo, List.size_toArray, H38x.out]) HOZ.out (by simpa using HON.out) ?_))
      obtain ⟨w6, hw6⟩ : ∃ w6, w6 = wr.alloc (.cells (xo.cs xp xc).toArray 46) := ⟨_, rfl⟩
      rw [← hw6]
      obtain ⟨k6, hk6⟩ : ∃ k, k = wr.heap.size := ⟨_, rfl⟩
      rw [← hk6]
      have hb6 : Below wr.heap.size wr w6 := by rw [hw6]; exact (Below.refl _ wr).alloc (Nat.le_refl _) _
      have hz6 := hb6.size
      have hk66 : k6 < w6.heap.size := by rw [hw6, hk6]; simp
      have HC6 := Lib.hid (show cellsAt w6 k6 0 (xo.cs xp xc) by rw [hw6, hk6]; simpa using cellsAt_new wr (xo.cs xp xc).toArray 46)
      have HB46 := Lib.hid (HB.out.trans (hb6.mono hzr))
      have HB6 := Lib.hid hb6
      have HT6 := Lib.hid (HT.out.of_below (show Below w.heap.size w w6 by rw [← HKS.out]; exact HBw4.out.trans (HB46.out.mono (by omega))) HT.out.2.2)
      have HCN := Lib.hid (opname_any xo HXOK.out.1 xp xc w6 HT6.out (HXOK.out.2.below hb6 (Nat.le_refl _)))
      obtain ⟨nm, hnm⟩ : ∃ nm, nm = nameB xo := ⟨_, rfl⟩
      rw [← hnm] at HCN
      have HN32 := Lib.hid (show nm.length = 32 by rw [hnm]; exact length_nameB xo)
      have HZN := Lib.hid (show (fillB [] 32).size = (bcs nm).toArray.size by rw [show (bcs nm).toArray.size = (bcs nm).length from rfl, bcs_length, HN32.out]; rfl)
      clear hw6 hk6 hb6 hnm
      go_upto_region 7 with (first
        | (refine wpList_loadAgg _ rfl 46 _ rfl _ Tryz.underlying46 rfl k6 0 (by rfl) (xo.cs xp xc) (by rw [opInfo, H38x.out]) HC6.out ?_)
        | (go_at_call 53; refine HCN.out.mono ?_; rintro e w7 ⟨rfl, hb7⟩)
        | (refine wpList_allocZ _ rfl 31 rfl _ HZ.out ?_)
        | (refine wpList_storeNew _ w7 rfl 31 _ _ rfl (fillB [] 32) rfl (by rfl) (bcs nm).toArray (by rfl) (by rw [HI.out, List.size_toArray, bcs_length, HN32.out]) HZN.out (by simpa using bcs_one nm) ?_))
      obtain ⟨w8, hw8⟩ : ∃ w8, w8 = w7.alloc (.cells (bcs nm).toArray 31) := ⟨_, rfl⟩
      rw [← hw8]
      obtain ⟨k8, hk8⟩ : ∃ k, k = w7.heap.size := ⟨_, rfl⟩
      rw [← hk8]
      have hb8 : Below w7.heap.size w7 w8 := by rw [hw8]; exact (Below.refl _ w7).alloc (Nat.le_refl _) _
      have hz7 := hb7.size
      have hz8 := hb8.size
      have hk88 : k8 < w8.heap.size := by rw [hw8, hk8]; simp
      have HN8 := Lib.hid (show cellsAt w8 k8 0 (bcs nm) by rw [hw8, hk8]; simpa using cellsAt_new w7 (bcs nm).toArray 31)
      have hb68 := hb7.trans (hb8.mono hz7)
      have HC8 := Lib.hid (HC6.out.of_block (hb68.block _ hk66))
      have HBr8 := Lib.hid (HB6.out.trans (hb68.mono hz6))
      have HB48 := Lib.hid (HB46.out.trans (hb68.mono HB46.out.size))
      have hz48 := HB48.out.size
      have hk68 : k6 < w8.heap.size := by omega
      have hks4 : ks < w4.heap.size := by omega
      have HBw8 := Lib.hid (show Below w.heap.size w w8 by rw [← HKS.out]; exact HBw4.out.trans (HB48.out.mono (by omega)))
      have HCF := Lib.hid (opcontR_any pD cD D w8 (HSD.out.below HB48.out (Nat.le_refl _)) HD38.out 55 #[.pointer (some ⟨k6, 0, none⟩), .pointer (some ⟨ks, 0, none⟩), .pointer (some ⟨k8, 0, none⟩)] HEG.out (fun d => ∃ m x, Anc (O.map E3.ent) m x) (fun Wz hWz d hd => by
        have hB4z := HB48.out.trans (hWz.mono hz48)
        have hok := (HDOK.out d hd).keeps hB4z.size (fun i hi _ => hB4z.block i hi)
        have hBwz := HBw8.out.trans (hWz.mono HBw8.out.size)
        exact (memclo_any b mo mw mt B O W T nm HN32.out xo xp xc k6 ks k8 d Wz (HD.out.under hBwz) HIN.out hL (HT.out.of_below hBwz HT.out.2.2) (HC8.out.of_block (hWz.block _ hk68)) (Nat.lt_of_lt_of_le hk68 hWz.size) ((hB4z.cell (p := ⟨ks, 0, none⟩) hks4).trans HCS4.out) (HN8.out.of_block (hWz.block _ hk88)) (Nat.lt_of_lt_of_le hk88 hWz.size) hok.ok hok.src).mono fun e' w' ⟨bb, h1, h2, h3⟩ => ⟨bb, h1, fun h => ⟨_, _, h2 h⟩, h3⟩) (by omega))
      clear hw8 hk8 hb8 hb68 hb7
      go_upto_region 8 with (go_at_call 54; refine HCF.out.mono ?_; rintro e w9 ⟨bb, rfl, hbb, hb9⟩)
      have hz9 := hb9.size
      have HB49 := Lib.hid (HB48.out.trans (hb9.mono hz48))
      have HBr9 := Lib.hid (HBr8.out.trans (hb9.mono HBr8.out.size))
      have HC9 := Lib.hid (HC8.out.of_block (hb9.block _ hk68))
      have HO9 := Lib.hid (orow_under HOW.out HBr9.out)
      have HBB := Lib.hid hbb
      have hz49 := HB49.out.size
      clear hbb hb9
      cases bb with
      | true =>
        go_wp2
        go_roundw
        case rel => exact ⟨n + 1, K, by omega, by go_num, by omega, Lib.hid (HK.out.skip HEn.out (let ⟨_, _, h⟩ := HBB.out (by first | rfl | trivial); h)), HO9, HB49⟩
        case measure => simp [intOf] <;> omega
      | false =>
        have hcv := (OpV.cs_kind HC9.out).2.2
        obtain ⟨xv, hxv⟩ : ∃ y, y = xo.d.value := ⟨_, rfl⟩
        rw [← hxv] at hcv
        have HXV := Lib.hid hxv
        clear hxv
        go_wp2_with (at_builtin; refine wpList_append_src rfl _ _ 51 rfl w4.heap.size 9 is _ 1 16 Tryz.underlying51 his hsz0 hsz1 hsz2 (by rfl) (by omega) u5 K.length (scs K) (by rfl) (orow_under HO9.out ((Below.refl _ _).alloc (Nat.le_refl _) _)) (some ⟨w9.heap.size, 0, none⟩) 1 1 (scs [xv]) (by rfl) (by rfl) (src_new w9 (scs [xv]) 9) (fun a e => by cases e; rfl) (scs_one _) (by unfold maxLen; omega) (by omega) (by rw [World.size_alloc]; omega) ?_; intro vz wz hownz hgz hsz)
        have HBz := Lib.hid ((HB49.out.alloc (by omega) (.cells #[txt xv] 9)).grown hgz (by rw [World.size_alloc]; omega) (fun k e => (orow_lt HO9.out e).1))
        have HOz := Lib.hid (show wz.ownsRow w4.heap.size 9 1 vz (K ++ [xv]).length (scs (K ++ [xv])) by
          rw [List.length_append]
          simpa [scs] using hownz)
        have HKz := Lib.hid (show MemQ (O.map E3.ent) (A.map E3.ent) (n + 1) (K ++ [xv]) by rw [HXV.out]; exact HK.out.add HEn.out)
        clear hownz hgz hsz hcv
        go_roundw
        case rel => exact ⟨n + 1, K ++ [xv], by omega, by go_num, by simp; omega, HKz, HOz, HBz⟩
        case measure => simp [intOf] <;> omega
    · obtain rfl : n = A.length := by omega
      obtain ⟨p5, c5, hp5⟩ := (Owns.of HOW.out).form
      subst hp5
      have HKE := Lib.hid (show compact (tsort K) = ascL K from rfl)
      have HMV := Lib.hid (show MemV (O.map E3.ent) key K from by
        have h1 := HK.out
        rw [HAE.out] at h1
        exact h1.memV (by rw [← HAE.out, List.length_map]) hKl)
      have htl : (tsort K).length = K.length := (tsort_perm K).length_eq
      have HCS' := Lib.hid (sortT_any K p5 c5 w4.heap.size wr HOW.out (by omega))
      go_wp2_with (first
        | (go_at_call 51; refine HCS'.out.mono ?_; rintro e w2 ⟨rfl, ho2, hb2⟩; rw [← htl] at ho2; have HCC := Lib.hid (compactT_any (tsort K) p5 c5 w4.heap.size w2 ho2 (by omega)); rw [htl] at HCC)
        | (go_at_call 52; refine HCC.out.mono ?_; rintro e w3 ⟨rfl, ho3, hb3⟩))
      go_ret
      rw [HKE.out] at ho3 ⊢
      exact ⟨p5, c5, K, rfl, orow_down ho3 (by have := HKS.out; omega), HMV.out, (by
        have h1 := (HB.out.trans (hb2.trans (hb3.mono (Nat.le_refl _))))
        have h2 := HBw4.out
        rw [HKS.out] at h2
        exact h2.trans (h1.mono h2.size))⟩
end Go.Proofs.YtfoifdhcelcgiaaGreatDoor
