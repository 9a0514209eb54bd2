/-
  tribunalref10.Made: the operations that makes are.
-/
import Derived.Test.YtfoifdhcelcgiaaGreatDoorJk
import Derived.Test.YtfoifdhcelcgiaaGreatDoorSame
namespace Go.Proofs.YtfoifdhcelcgiaaGreatDoor
open Go Go.RowKit

set_option maxRecDepth 100000 in
set_option maxHeartbeats 40000000 in
theorem made_any (M : List MkV) (hM : ∀ m ∈ M, m.Ok) (p : Option Addr) (cap : Nat) (w : World) (hT : Tabs w) (hs : Src w p (mcs M)) (hps : ∀ m ∈ M, Src w m.p (pcs m.o.preds)) (hMl : M.length ≤ 1000000000) :
    Calls Tryz.prog 35 #[.slice p M.length cap] w fun e w' => ∃ v L B, e = .returned v ∧ MadeOut w w' v L B := by
  obtain ⟨io, hio, hoz0, hoz1, hoz2⟩ := info_parts opInfo3
  obtain ⟨hzm, him⟩ := info_two mkZero
  obtain ⟨hzo, _⟩ := info_two opZero
  obtain ⟨hz, hid⟩ := info_two idInfo
  have HZ := Lib.hid hz
  have HI := Lib.hid hid
  have HZM := Lib.hid hzm
  have HIM := Lib.hid him
  have HZO := Lib.hid hzo
  have HM := Lib.hid hM
  have HS := Lib.hid hs
  have HPS := Lib.hid hps
  have HT := Lib.hid hT
  have H78 := Lib.hid (show ∀ m ∈ M, m.cs.length = 78 from fun m hm => MkV.cs_length (hM m hm))
  obtain ⟨w1, hw1⟩ : ∃ w1, w1 = w.alloc (.cells #[.slice none 0 0, .slice none 0 0, .slice none 0 0, .slice none 0 0] 37) := ⟨_, rfl⟩
  have hst0 : MadeSt w w1 w.heap.size 0 (.slice none 0 0) (.slice none 0 0) (.slice none 0 0) (.slice none 0 0) (.slice none 0 0) (fun i => i = w.heap.size) (fun i => i < w.heap.size) [] [] [] := by
    have hb1 : Below w.heap.size w w1 := by rw [hw1]; exact (Below.refl _ w).alloc (Nat.le_refl _) _
    have hz1 : w1.heap.size = w.heap.size + 1 := by rw [hw1]; simp
    have hn : ∀ g, (Value.slice none 0 0).ownBlock = some g → False := fun g hg => by simp [Value.ownBlock] at hg
    refine ⟨⟨by rw [hw1]; exact (MapKept.heap_alloc _ _).1, Owns.nil _ _ _ _, Owns.nil _ _ _ _, Owns.nil _ _ _ _, Owns.nil _ _ _ _, by simp, by simp, rfl, fun g hg => (hn g hg).elim, fun g hg => (hn g hg).elim, fun g hg => (hn g hg).elim, fun g hg => (hn g hg).elim, fun i hi hb => by omega, fun i hi => by omega, fun i hi => by omega, fun g hg => (hn g hg).elim, fun g hg => (hn g hg).elim⟩, DInv.nil, by simp, by simp, Owns.nil _ _ _ _, by simp, fun g hg => (hn g hg).elim, fun i hi => by omega, fun i hi => hi, hb1⟩
  have HST0 := Lib.hid hst0
  clear hzm him hzo hM hs hps hT hst0 hz hid
  go_enter Tryz.func35, Tryz.ntmps35
  go_upto_region 2 with (first
    | (refine wpList_buildZ _ rfl 37 rfl _ (build_set _) ?_)
    | (refine wpList_boxAgg _ rfl 37 _ rfl #[.slice none 0 0, .slice none 0 0, .slice none 0 0, .slice none 0 0] (by rfl) ?_))
  rw [← hw1]
  clear hw1
  go_wp2_with fail
  go_loopw [4, 16] (fun v i wr => ∃ (n : Nat) (vo vw vn vm : Value) (F B : Nat → Prop) (O W L : List E3), n ≤ M.length ∧ n ≤ 30 ∧ i = .int .i64 n ∧ Hid (MadeSt w wr w.heap.size n v vo vw vn vm F B O W L)) (fun _ i _ => M.length - (intOf i).toNat)
  case atStart => exact ⟨0, _, _, _, _, _, _, [], [], [], by omega, by omega, rfl, HST0⟩
  case round =>
    obtain ⟨n, vo, vw, vn, vm, F, B, O, W, L, hn1, hn2, rfl, HST⟩ := hrel
    have hszr := HST.out.below.size
    by_cases hlt : n < M.length
    · obtain ⟨m, g, off, hm1, hm2, hp, hm4⟩ := make_at HS.out.at_ H78.out hlt
      subst hp
      have hgl := cellsAt_lt hm4 (by rw [H78.out m hm2]; omega)
      have HMO := Lib.hid (HM.out m hm2)
      have HM78 := Lib.hid (H78.out m hm2)
      have HMC := Lib.hid (show cellsAt wr g (off + n * 78) m.cs from hm4.of_block (HST.out.below.block _ hgl))
      have HM1 := Lib.hid m.cs_one
      have HMZ := Lib.hid (show zeroMk.cs.toArray.size = m.cs.toArray.size by rw [List.size_toArray, List.size_toArray, HM78.out]; rfl)
      have HMP := Lib.hid ((HPS.out m hm2).below HST.out.below (Nat.le_refl _))
      have HO38 := Lib.hid (OpV.cs_length HMO.out.o m.p m.c)
      have HO1 := Lib.hid (OpV.cs_one m.o m.p m.c)
      have HOZ := Lib.hid (show (zeroOp.cs none 0).toArray.size = (m.o.cs m.p m.c).toArray.size by rw [List.size_toArray, List.size_toArray, HO38.out]; rfl)
      have HK1 := Lib.hid (show cellsAt (wr.alloc (.cells m.cs.toArray 99)) wr.heap.size 40 (m.o.cs m.p m.c) from (MkV.parts HMO.out (by simpa using cellsAt_new wr m.cs.toArray 99)).2.2.2.2.2.2)
      have hmp : ∀ i o, m.p = some ⟨i, o, none⟩ → m.o.preds ≠ [] → i < w.heap.size := fun i o e hne => (HPS.out m hm2).lt (ne_pcs (HM.out m hm2).o.ids hne) i o e
      have HMPL := Lib.hid hmp
      clear hm1 hm4 hmp
      by_cases hn30 : n = 30
      · have dn : ((n : Int) == 30) = true := by simp [hn30]
        clear hn30
        go_wp2_with (first
          | (refine wpList_loadAgg _ rfl 99 _ rfl _ Tryz.underlying99 rfl g (off + n * 78) (by rfl) m.cs (by rw [HIM.out, HM78.out]) HMC.out ?_)
          | (refine wpList_allocZ _ rfl 99 rfl _ HZM.out ?_)
          | (refine wpList_storeNew _ wr rfl 99 _ _ rfl zeroMk.cs.toArray rfl (by rfl) m.cs.toArray (by rfl) (by rw [HIM.out, List.size_toArray, HM78.out]) HMZ.out (by simpa using HM1.out) ?_))
        go_ret
        exact ⟨_, L, B, rfl, (HST.out.under ((Below.refl _ wr).alloc (Nat.le_refl _) _)).out hn2⟩
      · have dn : ((n : Int) == 30) = false := by simp; omega
        go_upto_region 8 with (first
          | (refine wpList_loadAgg _ rfl 99 _ rfl _ Tryz.underlying99 rfl g (off + n * 78) (by rfl) m.cs (by rw [HIM.out, HM78.out]) HMC.out ?_)
          | (refine wpList_allocZ _ rfl 99 rfl _ HZM.out ?_)
          | (refine wpList_storeNew _ wr rfl 99 _ _ rfl zeroMk.cs.toArray rfl (by rfl) m.cs.toArray (by rfl) (by rw [HIM.out, List.size_toArray, HM78.out]) HMZ.out (by simpa using HM1.out) ?_)
          | (refine wpList_loadAgg _ rfl 46 _ rfl _ Tryz.underlying46 rfl wr.heap.size 40 (by rfl) (m.o.cs m.p m.c) (by rw [opInfo, HO38.out]) HK1.out ?_)
          | (refine wpList_allocZ _ rfl 46 rfl _ HZO.out ?_)
          | (refine wpList_storeNew _ (wr.alloc (.cells m.cs.toArray 99)) rfl 46 _ _ rfl (zeroOp.cs none 0).toArray rfl (by rfl) (m.o.cs m.p m.c).toArray (by rfl) (by rw [opInfo, List.size_toArray, HO38.out]) HOZ.out (by simpa using HO1.out) ?_))
        obtain ⟨w2, hw2⟩ : ∃ w2, w2 = (wr.alloc (.cells m.cs.toArray 99)).alloc (.cells (m.o.cs m.p m.c).toArray 46) := ⟨_, rfl⟩
        rw [← hw2]
        have hb2 : Below wr.heap.size wr w2 := by rw [hw2]; exact ((Below.refl _ wr).alloc (Nat.le_refl _) _).alloc (by simp) _
        have hz2 : wr.heap.size + 2 ≤ w2.heap.size := by rw [hw2]; simp
        have HK2 := Lib.hid (show cellsAt w2 wr.heap.size 0 m.cs by
          rw [hw2]
          exact cellsAt.of_block (by simpa using cellsAt_new wr m.cs.toArray 99) ((MapKept.heap_alloc _ _).2 _ (by simp)))
        obtain ⟨k7, hk7⟩ : ∃ k, k = wr.heap.size + 1 := ⟨_, rfl⟩
        have HBX2 := Lib.hid (show BoxOp w2 k7 B wr.heap.size m.o m.p m.c from ⟨HMO.out.o, by rw [hw2, hk7]; exact heap_alloc2 _ _ _, HMP.out.below hb2 (Nat.le_refl _), fun i o e hne => .inl (HST.out.bin i (HMPL.out i o e hne))⟩)
        try rw [World.size_alloc]
        try rw [← hk7]
        have hk7a : wr.heap.size ≤ k7 := by omega
        have hk7b : k7 ≠ wr.heap.size := by omega
        have hk7c : k7 < w2.heap.size := by omega
        have HB2 := Lib.hid hb2
        have HFR := Lib.hid HST.out.set.flt
        clear hb2 hw2 dn hk7
        have kp0 := (MkV.parts HMO.out HK2.out).1
        have HMD := Lib.hid (MkV.parts HMO.out HK2.out).2.2.1
        have kp1 := (MkV.parts HMO.out HK2.out).2.1
        have HDL := Lib.hid (Dr.cs_length HMO.out.d)
        by_cases hk0 : m.kind = 0
        · have dk : (m.kind == 0) = true := by simp [hk0]
          have dk1 : (m.kind == 1) = false := by simp [hk0]
          obtain ⟨nx, hnx⟩ : ∃ q, q = nextD ⟨O.map E3.ent, W.map E3.ent⟩ m.author m.d := ⟨_, rfl⟩
          have hset2 := HST.out.set.under HB2.out
          have hcl := rnext_any w.heap.size vo vw vn vm F B O W m.author HMO.out.author.1 HMO.out.author.2 m.d HMO.out.d w2 hset2 (by have := HST.out.len; omega)
          have HNOK := Lib.hid (show nx.1.Ok by
            rw [hnx]
            exact nextD_ok HMO.out.author HMO.out.d (fun x hx => hset2.n32 x (by rw [names_ent]; exact hx)))
          rw [← hnx] at hcl
          obtain ⟨y, en⟩ := nx
          have HCL := Lib.hid hcl
          clear hcl hset2 hnx
          by_cases hen : en = 0
          · have den : (en != 0) = false := by simp [hen]
            go_upto_region 10 with (first
              | (refine wpList_loadAgg _ rfl 44 _ rfl _ Tryz.underlying44 rfl wr.heap.size 2 (by rfl) m.d.cs (by rw [draftInfo, HDL.out]) HMD.out ?_)
              | (go_at_call 63; refine HCL.out.mono ?_; rintro e w3 ⟨hb3, yp, yc, rfl, hy3⟩)
              | (refine wpList_allocZ _ rfl 46 rfl _ HZO.out ?_)
              | (refine wpList_storeNew _ w3 rfl 46 _ _ rfl (zeroOp.cs none 0).toArray rfl (by rfl) (y.cs yp yc).toArray (by rfl) (by rw [opInfo, List.size_toArray, OpV.cs_length HNOK.out]) (show 38 = (y.cs yp yc).toArray.size by rw [List.size_toArray, OpV.cs_length HNOK.out]) (by simpa using OpV.cs_one y yp yc) ?_))
            obtain ⟨w4, hw4⟩ : ∃ w4, w4 = w3.alloc (.cells (y.cs yp yc).toArray 46) := ⟨_, rfl⟩
            rw [← hw4]
            have hb34 : Below w3.heap.size w3 w4 := by rw [hw4]; exact (Below.refl _ w3).alloc (Nat.le_refl _) _
            have hz3 := hb3.size
            have HCY := Lib.hid (show cellsAt w4 w3.heap.size 0 (y.cs yp yc) by rw [hw4]; simpa using cellsAt_new w3 (y.cs yp yc).toArray 46)
            have hz4 : w3.heap.size < w4.heap.size := by rw [hw4]; simp
            have hb4 : Below w2.heap.size w2 w4 := hb3.trans (hb34.mono hz3)
            have HBX4 := Lib.hid (HBX2.out.under hb4)
            have HYS := Lib.hid ((Owns.srcOf hy3).below hb34 (Nat.le_refl _))
            have HYA := Lib.hid (show ∀ i off, yp = some ⟨i, off, none⟩ → wr.heap.size ≤ i from fun i off e => by have := (hy3.at e).1; omega)
            have HYK := Lib.hid (show ∀ off, yp ≠ some ⟨k7, off, none⟩ from fun off e => by have := (hy3.at e).1; omega)
            have HB4 := Lib.hid (HB2.out.trans (hb4.mono (by omega)))
            have HK4 := Lib.hid (show cellsAt w4 wr.heap.size 0 m.cs from HK2.out.of_block (hb4.block _ (by omega)))
            have HY38 := Lib.hid (OpV.cs_length HNOK.out yp yc)
            have HY1 := Lib.hid (OpV.cs_one y yp yc)
            have hz24 := hb4.size
            clear hw4 hb34 hb3 hb4 hy3 kp0 kp1
            have kq0 := (MkV.parts HMO.out HK4.out).1
            go_upto_region 12 with (first
              | (refine wpList_loadAgg _ rfl 46 _ rfl _ Tryz.underlying46 rfl w3.heap.size 0 (by rfl) (y.cs yp yc) (by rw [opInfo, HY38.out]) HCY.out ?_)
              | (refine wpList_storeRow rfl 46 _ _ rfl HBX4.out.row (by rfl) (y.cs yp yc).toArray (by rfl) (by rw [opInfo, List.size_toArray, HY38.out]) (show (m.o.cs m.p m.c).toArray.size = (y.cs yp yc).toArray.size by rw [List.size_toArray, List.size_toArray, HY38.out, HO38.out]) (by simpa using HY1.out) ?_; intro w5 hw5 hg5 hs5))
            have hz5 := hg5.size
            have HB5 := Lib.hid (HB4.out.grown hg5 (by omega) (fun k e => by have := Option.some.inj e; omega))
            have HBX5 := Lib.hid (show BoxOp w5 k7 B wr.heap.size y yp yc from ⟨HNOK.out, hw5, HYS.out.of_blocks hz5 (fun i off e hlt _ => hg5.block i hlt (fun e2 => by
              have h1 := Option.some.inj e2
              subst h1
              exact HYK.out off e)), fun i off e _ => .inr (HYA.out i off e)⟩)
            have HK5 := Lib.hid (show cellsAt w5 wr.heap.size 0 m.cs from HK4.out.of_block (hg5.block _ (by omega) (fun e => by have := Option.some.inj e; omega)))
            clear hw5 hg5 hs5 kq0
            have kr0 := (MkV.parts HMO.out HK5.out).1
            have hcpa := (OpV.cs_at HBX5.out.ok HBX5.out.cells).2.2
            have hcka : w5.cell? ⟨k7, 1, none⟩ = some (txt y.d.key) := by simpa using (OpV.cs_d HBX5.out.cells).key
            have hcva : w5.cell? ⟨k7, 2, none⟩ = some (txt y.d.value) := by simpa using (OpV.cs_d HBX5.out.cells).value
            have HSTa := Lib.hid (HST.out.under HB5.out)
            have hzXa := HB5.out.size
            go_upto_region 19 with fail
            all_goals first
              | (refine ⟨⟨n + 1, by omega, by omega, by first | omega | go_num | (push_cast; rfl), _, _, _, _, _, _, _, _, _, Lib.hid (HSTa.out.le (Nat.le_succ n))⟩, ?_⟩
                 simp [intOf] <;> omega)
              | (go_roundw
                 case rel => exact ⟨n + 1, _, _, _, _, _, _, _, _, _, by omega, by omega, by go_num, Lib.hid (HSTa.out.le (Nat.le_succ n))⟩
                 case measure => simp [intOf] <;> omega)
              | skip
            clear hcpa hcka hcva
            have HMORa := Lib.hid (show MadeSt w w5 w.heap.size n u4 vo vw vn vm F (fun i => B i ∨ (wr.heap.size ≤ i ∧ i < w5.heap.size)) O W L from HSTa.out.more (n0 := wr.heap.size) (fun i hi => .inl hi) (fun i hi => hi) HFR.out (fun g hg => (HST.out.own.lt hg).2))
            have HATa := Lib.hid (show ∀ i off, yp = some ⟨i, off, none⟩ → y.preds ≠ [] → B i ∨ (wr.heap.size ≤ i ∧ i < w5.heap.size) from fun i off e hne => (HBX5.out.at_ i off e hne).imp id (fun h => ⟨h, HBX5.out.src.lt (ne_pcs HBX5.out.ok.ids hne) i off e⟩))
            have HCALLa := Lib.hid (rtake_any w.heap.size vo vw vn vm F (fun i => B i ∨ (wr.heap.size ≤ i ∧ i < w5.heap.size)) O W y HBX5.out.ok yp yc w5 (HT.out.of_below HSTa.out.below HT.out.2.2) HMORa.out.set HSTa.out.inv HBX5.out.src HATa.out (Nat.le_trans HSTa.out.len (by omega)))
            obtain ⟨rsa, hrsa⟩ : ∃ q, q = takeD ⟨O.map E3.ent, W.map E3.ent⟩ y := ⟨_, rfl⟩
            have HINa := Lib.hid (show DInv rsa.1 by rw [hrsa]; exact HSTa.out.inv.take y)
            have HLNa := Lib.hid (show rsa.1.ops.length + rsa.1.wait.length ≤ O.length + W.length + 1 by rw [hrsa]; simpa using takeD_len ⟨O.map E3.ent, W.map E3.ent⟩ y)
            rw [← hrsa] at HCALLa
            clear hrsa
            go_upto_region 20 with (first
              | (refine wpList_loadAgg _ rfl 46 _ rfl _ Tryz.underlying46 rfl k7 0 (by rfl) (y.cs yp yc) (by rw [opInfo, OpV.cs_length HBX5.out.ok]) HBX5.out.cells ?_)
              | (go_at_call 36; refine HCALLa.out.mono ?_; rintro e wTa ⟨vta, voa, vwa, vna, vma, Fa, Oa, Wa, rfl, hOa, hWa, hseta, hFa, hota, hkka⟩))
            have HTKa := Lib.hid (show MadeSt w wTa w.heap.size (n + 1) u4 voa vwa vna vma Fa (fun i => B i ∨ (wr.heap.size ≤ i ∧ i < w5.heap.size)) Oa Wa L from HMORa.out.took hseta hFa hkka (by rw [hOa, hWa]; exact HINa.out) (by
              have h1 := HLNa.out
              have h2 := len_ent hOa
              have h3 := len_ent hWa
              have h4 := HSTa.out.len
              omega))
            have HLLa := Lib.hid (show L.length + 1 ≤ n + 1 from Nat.succ_le_succ HSTa.out.llen)
            have hlla : L.length ≤ 30 := Nat.le_trans HSTa.out.llen hn2
            have hrowa : wTa.heap[k7]? = some (.cells (y.cs yp yc).toArray 46 (0, 0)) := (hkka.block _ HBX5.out.lt (fun hf => by have := HFR.out k7 hf; omega)).trans HBX5.out.row
            have HCTa := Lib.hid (show cellsAt wTa k7 0 (y.cs yp yc) from fun j u hj => by rw [cell_of_row _ _ _ _ _ _ hrowa, Nat.zero_add]; simpa using hj)
            have HEa := Lib.hid (show (⟨zeroId, y, yp, yc⟩ : E3).Ok wTa (fun i => B i ∨ (wr.heap.size ≤ i ∧ i < w5.heap.size)) from (show (⟨zeroId, y, yp, yc⟩ : E3).Ok w5 (fun i => B i ∨ (wr.heap.size ≤ i ∧ i < w5.heap.size)) from ⟨HBX5.out.ok, rfl, HBX5.out.src, HATa.out⟩).keeps hkka.size (fun i hi hB => hkka.block i hi (fun hf => HMORa.out.set.apart i hf hB)))
            have HXLa := Lib.hid (OpV.cs_length HBX5.out.ok yp yc)
            have HX1a := Lib.hid (OpV.cs_one y yp yc)
            have hzTa := hkka.size
            have hwTa := HTKa.out.below.size
            clear hseta hFa hota hkka hOa hWa hrowa
            go_wp2_with (first
              | (refine wpList_loadAgg _ rfl 46 _ rfl _ Tryz.underlying46 rfl k7 0 (by rfl) (y.cs yp yc) (by rw [opInfo, HXLa.out]) HCTa.out ?_)
              | (refine wpList_buildOne _ rfl 35 _ rfl 46 38 _ Tryz.underlying35 opInfo (by omega) (by omega) HZO.out (y.cs yp yc).toArray (by rfl) (by rw [List.size_toArray, HXLa.out]) ?_)
              | (at_builtin; refine wpList_append_G rfl _ _ 35 rfl w.heap.size 46 io _ 38 112 Tryz.underlying35 hio hoz0 hoz1 hoz2 (by rfl) (by omega) u4 L.length (ocs L) (by rfl) (HTKa.out.own.alloc _) (some ⟨wTa.heap.size, 0, none⟩) 1 1 (y.cs yp yc) (by rfl) (by rw [HXLa.out]) (src_new wTa (y.cs yp yc) 46) (fun a e => by cases e; rfl) HX1a.out (by unfold maxLen; omega) (by omega) (by rw [World.size_alloc]; omega) ?_; intro v9a w9a howna hga hsa))
            have HFINa := Lib.hid (HTKa.out.push (e := ⟨zeroId, y, yp, yc⟩) HLLa.out HEa.out howna hga hsa)
            clear howna hga hsa
            go_roundw
            case rel => exact ⟨n + 1, _, _, _, _, _, _, _, _, _, by omega, by omega, by go_num, HFINa⟩
            case measure => simp [intOf] <;> omega
          · have den : (en != 0) = true := by simp [hen]
            go_wp2_with (first
              | (refine wpList_loadAgg _ rfl 44 _ rfl _ Tryz.underlying44 rfl wr.heap.size 2 (by rfl) m.d.cs (by rw [draftInfo, HDL.out]) HMD.out ?_)
              | (go_at_call 63; refine HCL.out.mono ?_; rintro e w3 ⟨hb3, yp, yc, rfl, hy3⟩)
              | (refine wpList_allocZ _ rfl 46 rfl _ HZO.out ?_)
              | (refine wpList_storeNew _ w3 rfl 46 _ _ rfl (zeroOp.cs none 0).toArray rfl (by rfl) (y.cs yp yc).toArray (by rfl) (by rw [opInfo, List.size_toArray, OpV.cs_length HNOK.out]) (show 38 = (y.cs yp yc).toArray.size by rw [List.size_toArray, OpV.cs_length HNOK.out]) (by simpa using OpV.cs_one y yp yc) ?_))
            have hz3 := hb3.size
            have HSTn := Lib.hid (HST.out.under (HB2.out.trans ((hb3.trans ((Below.refl _ w3).alloc (Nat.le_refl _) (.cells (y.cs yp yc).toArray 46) |>.mono hz3)).mono (by omega))))
            clear hb3 hy3
            go_roundw
            case rel => exact ⟨n + 1, _, _, _, _, _, _, _, _, _, by omega, by omega, by go_num, Lib.hid (HSTn.out.le (Nat.le_succ n))⟩
            case measure => simp [intOf] <;> omega
        · have dk : (m.kind == 0) = false := by simp [hk0]
          by_cases hk1 : m.kind = 1
          · have dk1 : (m.kind == 1) = true := by simp [hk1]
            by_cases hL : 0 < L.length
            · have dl : decide ((L.length : Int) > 0) = true := decide_eq_true (by omega)
              obtain ⟨pv, cv, hpv⟩ := HST.out.own.form
              subst hpv
              have HOWS := Lib.hid HST.out.own.srcOf
              have HL38 := Lib.hid (show ∀ e ∈ L, e.cs.length = 38 from fun e he => OpV.cs_length (HST.out.okL e he).ok _ _)
              obtain ⟨ix, htx, hix⟩ := pick_lt m.at_ L.length hL
              obtain ⟨iy, hty, hiy⟩ := pick_lt m.other L.length hL
              obtain ⟨ex, gx, ox, hx1, _, hx3, hpx, hx4⟩ := op_at HOWS.out.at_ HL38.out hix
              obtain ⟨ey, gy, oy, hy1, _, hy3, hpy, hy4⟩ := op_at HOWS.out.at_ HL38.out hiy
              have hgL0 := cellsAt_lt hx4 (by rw [HL38.out ex hx3]; omega)
              subst hpx
              have hpy2 := Option.some.inj hpy
              simp only [Addr.mk.injEq, and_true] at hpy2
              obtain ⟨hpy3, hpy4⟩ := hpy2
              subst hpy3 hpy4
              obtain ⟨gL, hgLx⟩ : ∃ k, k = gx := ⟨_, rfl⟩
              obtain ⟨oL, hoLx⟩ : ∃ k, k = ox := ⟨_, rfl⟩
              subst hgLx hoLx
              clear hpy
              have hgL : gL < wr.heap.size := hgL0
              clear hgL0
              obtain ⟨xo, hxo⟩ : ∃ y, y = ex.o := ⟨_, rfl⟩
              obtain ⟨xp, hxp⟩ : ∃ y, y = ex.p := ⟨_, rfl⟩
              obtain ⟨xc, hxc⟩ : ∃ y, y = ex.c := ⟨_, rfl⟩
              have hcsx : ex.cs = xo.cs xp xc := by rw [hxo, hxp, hxc]; rfl
              have HCx := Lib.hid (show cellsAt w2 gL (oL + ix * 38) (xo.cs xp xc) from by rw [← hcsx]; exact hx4.of_block (HB2.out.block _ hgL))
              have HOKx := Lib.hid (show xo.Ok by rw [hxo]; exact (HST.out.okL ex hx3).ok)
              have HSRx := Lib.hid (show Src w2 xp (pcs xo.preds) by rw [hxo, hxp]; exact (HST.out.okL ex hx3).src.below HB2.out (Nat.le_refl _))
              have HATx := Lib.hid (show ∀ b off, xp = some ⟨b, off, none⟩ → xo.preds ≠ [] → b < wr.heap.size from fun b off e hne => HST.out.set.blt b ((HST.out.okL ex hx3).at_ b off (by rw [← hxp]; exact e) (by rw [← hxo]; exact hne)))
              have H38x := Lib.hid (OpV.cs_length HOKx.out xp xc)
              have HONx := Lib.hid (OpV.cs_one xo xp xc)
              clear hcsx hxo hxp hxc hx1 hx3 hx4
              obtain ⟨yo, hyo⟩ : ∃ y, y = ey.o := ⟨_, rfl⟩
              obtain ⟨yp, hyp⟩ : ∃ y, y = ey.p := ⟨_, rfl⟩
              obtain ⟨yc, hyc⟩ : ∃ y, y = ey.c := ⟨_, rfl⟩
              have hcsy : ey.cs = yo.cs yp yc := by rw [hyo, hyp, hyc]; rfl
              have HCy := Lib.hid (show cellsAt w2 gL (oL + iy * 38) (yo.cs yp yc) from by rw [← hcsy]; exact hy4.of_block (HB2.out.block _ hgL))
              have HOKy := Lib.hid (show yo.Ok by rw [hyo]; exact (HST.out.okL ey hy3).ok)
              have HSRy := Lib.hid (show Src w2 yp (pcs yo.preds) by rw [hyo, hyp]; exact (HST.out.okL ey hy3).src.below HB2.out (Nat.le_refl _))
              have HATy := Lib.hid (show ∀ b off, yp = some ⟨b, off, none⟩ → yo.preds ≠ [] → b < wr.heap.size from fun b off e hne => HST.out.set.blt b ((HST.out.okL ey hy3).at_ b off (by rw [← hyp]; exact e) (by rw [← hyo]; exact hne)))
              have H38y := Lib.hid (OpV.cs_length HOKy.out yp yc)
              have HONy := Lib.hid (OpV.cs_one yo yp yc)
              clear hcsy hyo hyp hyc hy1 hy3 hy4
              have hl30 : L.length ≤ 30 := Nat.le_trans HST.out.llen hn2
              have hul := u64_len L.length (by omega)
              have hul0 : ¬ (L.length : Int) = 0 := by omega
              have hwx := i64_nat ix (by omega)
              have hwy := i64_nat iy (by omega)
              have hxl : (ix : Int) < (L.length : Int) := by omega
              have hyl : (iy : Int) < (L.length : Int) := by omega
              go_upto_region 13 with fail
              go_cut [10, 11, 16] from 16 to 126 (fun v10 v11 v16 wx => v16 = .int .i64 n ∧ ∃ (kx ky : Nat), v10 = .pointer (some ⟨kx, 0, none⟩) ∧ v11 = .pointer (some ⟨ky, 0, none⟩) ∧ w2.heap.size ≤ kx ∧ w2.heap.size ≤ ky ∧ kx < wx.heap.size ∧ ky < wx.heap.size ∧ Hid (cellsAt wx kx 0 (xo.cs xp xc)) ∧ Hid (cellsAt wx ky 0 (yo.cs yp yc)) ∧ Hid (Below w2.heap.size w2 wx))
              case first =>
                obtain ⟨NQ, hNQa, hNQb⟩ : ∃ n, w2.heap.size ≤ n ∧ n ≤ w2.heap.size := ⟨_, Nat.le_refl _, Nat.le_refl _⟩
                refine wp_region_noPanic ?_
                refine wp_region_till 25 (fun w' => Below NQ w2 w') (by kernel_rfl) (by kernel_rfl) ?_
                obtain ⟨wQ, hwQ⟩ : ∃ wQ, wQ = w2.drew := ⟨_, rfl⟩
                have hSwQ : Below NQ w2 wQ := by rw [hwQ]; exact (Below.refl NQ w2).drew
                rw [← hwQ]
                have HSQ := Lib.hid hSwQ
                have hzwQ : w2.heap.size ≤ wQ.heap.size := by rw [hwQ]; exact Nat.le_refl _
                clear hwQ hSwQ
                go_simp
                refine Till.pure 0 rfl rfl (by kernel_rfl) (NoPanic.noFrame _) HSQ.out ?_
                go_big_quiet_step (fail)
                refine wpQuiet_nil ?_
                refine Till.pure 1 rfl rfl (by kernel_rfl) (NoPanic.noFrame _) HSQ.out ?_
                go_big_quiet_step (fail)
                refine wpQuiet_nil ?_
                refine Till.load 2 3 _ ⟨wr.heap.size, 37, none⟩ (.int .i64 m.at_) rfl rfl rfl rfl (by kernel_rfl) (NoPanic.noFrame _) HSQ.out (fun w' hw' => run_loadVar_one Tryz.underlying3 rfl (MkV.parts HMO.out (HK2.out.of_block (hw'.block _ (by omega)))).2.2.2.1) ?_
                go_simp
                refine Till.pure 3 rfl rfl (by kernel_rfl) (NoPanic.noFrame _) HSQ.out ?_
                go_big_quiet_step (fail)
                refine wpQuiet_nil ?_
                refine Till.pure 4 rfl rfl (by kernel_rfl) (NoPanic.noFrame _) HSQ.out ?_
                go_big_quiet_step (fail)
                refine wpQuiet_nil ?_
                refine Till.val 5 (.int .i64 L.length) rfl rfl (by kernel_rfl) (NoPanic.noFrame _) HSQ.out (fun w' => exec_len _ _ _ rfl Tryz.underlying35 (some ⟨gL, oL, none⟩) L.length cv (by rfl) w') ?_
                go_simp
                refine Till.pure 6 rfl rfl (by kernel_rfl) (NoPanic.noFrame _) HSQ.out ?_
                go_big_quiet_step (fail)
                refine wpQuiet_nil ?_
                refine Till.pure 7 rfl rfl (by kernel_rfl) (NoPanic.noFrame _) HSQ.out ?_
                go_big_quiet_step (fail)
                refine wpQuiet_nil ?_
                refine Till.pure 8 rfl rfl (by kernel_rfl) (NoPanic.noFrame _) HSQ.out ?_
                go_big_quiet_step (fail)
                refine wpQuiet_nil ?_
                refine Till.pure 9 rfl rfl (by kernel_rfl) (NoPanic.noFrame _) HSQ.out ?_
                go_big_quiet_step (fail)
                refine wpQuiet_nil ?_
                refine Till.load 10 46 _ ⟨gL, oL + ix * 38, none⟩ (.agg (xo.cs xp xc).toArray) rfl rfl rfl rfl (by kernel_rfl) (NoPanic.noFrame _) HSQ.out (fun w' hw' => run_loadAgg Tryz.underlying46 rfl (by rw [opInfo, H38x.out]) (HCx.out.of_block (hw'.block _ (by omega)))) ?_
                go_simp
                refine Till.pure 11 rfl rfl (by kernel_rfl) (NoPanic.noFrame _) HSQ.out ?_
                go_big_quiet_step (fail)
                refine wpQuiet_nil ?_
                refine Till.pure 12 rfl rfl (by kernel_rfl) (NoPanic.noFrame _) HSQ.out ?_
                go_big_quiet_step (fail)
                refine wpQuiet_nil ?_
                refine Till.load 13 3 _ ⟨wr.heap.size, 38, none⟩ (.int .i64 m.other) rfl rfl rfl rfl (by kernel_rfl) (NoPanic.noFrame _) HSQ.out (fun w' hw' => run_loadVar_one Tryz.underlying3 rfl (MkV.parts HMO.out (HK2.out.of_block (hw'.block _ (by omega)))).2.2.2.2.1) ?_
                go_simp
                refine Till.pure 14 rfl rfl (by kernel_rfl) (NoPanic.noFrame _) HSQ.out ?_
                go_big_quiet_step (fail)
                refine wpQuiet_nil ?_
                refine Till.pure 15 rfl rfl (by kernel_rfl) (NoPanic.noFrame _) HSQ.out ?_
                go_big_quiet_step (fail)
                refine wpQuiet_nil ?_
                refine Till.val 16 (.int .i64 L.length) rfl rfl (by kernel_rfl) (NoPanic.noFrame _) HSQ.out (fun w' => exec_len _ _ _ rfl Tryz.underlying35 (some ⟨gL, oL, none⟩) L.length cv (by rfl) w') ?_
                go_simp
                refine Till.pure 17 rfl rfl (by kernel_rfl) (NoPanic.noFrame _) HSQ.out ?_
                go_big_quiet_step (fail)
                refine wpQuiet_nil ?_
                refine Till.pure 18 rfl rfl (by kernel_rfl) (NoPanic.noFrame _) HSQ.out ?_
                go_big_quiet_step (fail)
                refine wpQuiet_nil ?_
                refine Till.pure 19 rfl rfl (by kernel_rfl) (NoPanic.noFrame _) HSQ.out ?_
                go_big_quiet_step (fail)
                refine wpQuiet_nil ?_
                refine Till.pure 20 rfl rfl (by kernel_rfl) (NoPanic.noFrame _) HSQ.out ?_
                go_big_quiet_step (fail)
                refine wpQuiet_nil ?_
                refine Till.load 21 46 _ ⟨gL, oL + iy * 38, none⟩ (.agg (yo.cs yp yc).toArray) rfl rfl rfl rfl (by kernel_rfl) (NoPanic.noFrame _) HSQ.out (fun w' hw' => run_loadAgg Tryz.underlying46 rfl (by rw [opInfo, H38y.out]) (HCy.out.of_block (hw'.block _ (by omega)))) ?_
                go_simp
                refine Till.two 22 23 rfl rfl (by kernel_rfl) (by kernel_rfl) (by kernel_rfl) rfl rfl ?_ ?_
                · intro K hK
                  refine wp_allocZ _ 46 rfl _ HZO.out ?_
                  have hSa := HSQ.out.alloc (by omega) (.cells (Value.agg (zeroOp.cs none 0).toArray).cells 46)
                  refine hK _ _ hSa ?_
                  clear hK K
                  go_simp
                  refine Till.act 23 rfl rfl (by kernel_rfl) rfl ?_
                  intro K hK
                  refine wp_allocZ _ 46 rfl _ HZO.out ?_
                  obtain ⟨wb, hwb⟩ : ∃ wb, wb = (wQ.alloc (.cells (zeroOp.cs none 0).toArray 46)).alloc (.cells (Value.agg (zeroOp.cs none 0).toArray).cells 46) := ⟨_, rfl⟩
                  have ra : wb.heap[wQ.heap.size]? = some (.cells (zeroOp.cs none 0).toArray 46 (0, 0)) := by rw [hwb]; exact ((MapKept.heap_alloc _ _).2 _ (by simp)).trans (MapKept.heap_alloc _ _).1
                  have rb : wb.heap[wQ.heap.size + 1]? = some (.cells (zeroOp.cs none 0).toArray 46 (0, 0)) := by rw [hwb]; exact heap_alloc2 _ _ _
                  have hzb : wb.heap.size = wQ.heap.size + 2 := by rw [hwb]; simp
                  have hSb : Below NQ w2 wb := by rw [hwb]; exact hSa.alloc (by rw [World.size_alloc]; omega) _
                  rw [show (wQ.alloc (.cells (zeroOp.cs none 0).toArray 46)).alloc (.cells (Value.agg (zeroOp.cs none 0).toArray).cells 46) = wb from hwb.symm]
                  try rw [World.size_alloc]
                  clear hwb
                  refine hK _ _ hSb ?_
                  clear hK K
                  go_simp
                  refine Till.act 24 rfl rfl (by kernel_rfl) rfl ?_
                  intro K hK
                  refine wp_storeRow 46 _ _ rfl ra (by rfl) (xo.cs xp xc).toArray (by rfl) (by rw [opInfo, List.size_toArray, H38x.out]) (show 38 = (xo.cs xp xc).toArray.size by rw [List.size_toArray, H38x.out]) (by simpa using HONx.out) ?_
                  intro wX r11 hgX hsX
                  have hSX := hSb.grown hgX (by omega) (fun k e => by have := Option.some.inj e; omega)
                  have r12 := (hgX.block (wQ.heap.size + 1) (by omega) (fun e => by have := Option.some.inj e; omega)).trans rb
                  refine hK _ _ hSX ?_
                  clear hK K
                  go_simp
                  refine Till.tail _ rfl rfl (by kernel_rfl) (by kernel_rfl) ?_
                  refine wpList_storeRow rfl 46 _ _ rfl r12 (by rfl) (yo.cs yp yc).toArray (by rfl) (by rw [opInfo, List.size_toArray, H38y.out]) (show 38 = (yo.cs yp yc).toArray.size by rw [List.size_toArray, H38y.out]) (by simpa using HONy.out) ?_
                  intro w99 hw99 hg99 hs99
                  have hL12 := (Array.getElem?_eq_some_iff.1 r12).1
                  have hL11 := (Array.getElem?_eq_some_iff.1 r11).1
                  have hF1 := Lib.hid (show cellsAt w99 (wQ.heap.size) 0 (xo.cs xp xc) from fun j u hj => by rw [cell_of_row _ _ _ _ _ _ ((hg99.block _ hL11 (fun e => by have := Option.some.inj e; omega)).trans r11), Nat.zero_add]; simpa using hj)
                  have hF2 := Lib.hid (show cellsAt w99 (wQ.heap.size + 1) 0 (yo.cs yp yc) from fun j u hj => by rw [cell_of_row _ _ _ _ _ _ hw99, Nat.zero_add]; simpa using hj)
                  have hF3 := Lib.hid ((hSX.mono hNQa).grown hg99 (by omega) (fun k e => by have := Option.some.inj e; omega))
                  have hq1 : w2.heap.size ≤ wQ.heap.size := by omega
                  have hq2 : w2.heap.size ≤ wQ.heap.size + 1 := by omega
                  have hq3 : wQ.heap.size < w99.heap.size := by omega
                  have hq4 : wQ.heap.size + 1 < w99.heap.size := by omega
                  clear r11 r12 hw99 hg99
                  go_wp2
                  refine NoPanic.normal ?_
                  go_wp2
                  go_meet
                  exact ⟨rfl, _, _, rfl, rfl, hq1, hq2, hq3, hq4, hF1, hF2, hF3⟩
                · intro K hK
                  refine wp_allocZ _ 46 rfl _ HZO.out ?_
                  have hSa := HSQ.out.alloc (by omega) (.cells (Value.agg (zeroOp.cs none 0).toArray).cells 46)
                  refine hK _ _ hSa ?_
                  clear hK K
                  go_simp
                  refine Till.act 22 rfl rfl (by kernel_rfl) rfl ?_
                  intro K hK
                  refine wp_allocZ _ 46 rfl _ HZO.out ?_
                  obtain ⟨wb, hwb⟩ : ∃ wb, wb = (wQ.alloc (.cells (zeroOp.cs none 0).toArray 46)).alloc (.cells (Value.agg (zeroOp.cs none 0).toArray).cells 46) := ⟨_, rfl⟩
                  have ra : wb.heap[wQ.heap.size]? = some (.cells (zeroOp.cs none 0).toArray 46 (0, 0)) := by rw [hwb]; exact ((MapKept.heap_alloc _ _).2 _ (by simp)).trans (MapKept.heap_alloc _ _).1
                  have rb : wb.heap[wQ.heap.size + 1]? = some (.cells (zeroOp.cs none 0).toArray 46 (0, 0)) := by rw [hwb]; exact heap_alloc2 _ _ _
                  have hzb : wb.heap.size = wQ.heap.size + 2 := by rw [hwb]; simp
                  have hSb : Below NQ w2 wb := by rw [hwb]; exact hSa.alloc (by rw [World.size_alloc]; omega) _
                  rw [show (wQ.alloc (.cells (zeroOp.cs none 0).toArray 46)).alloc (.cells (Value.agg (zeroOp.cs none 0).toArray).cells 46) = wb from hwb.symm]
                  try rw [World.size_alloc]
                  clear hwb
                  refine hK _ _ hSb ?_
                  clear hK K
                  go_simp
                  refine Till.act 24 rfl rfl (by kernel_rfl) rfl ?_
                  intro K hK
                  refine wp_storeRow 46 _ _ rfl rb (by rfl) (xo.cs xp xc).toArray (by rfl) (by rw [opInfo, List.size_toArray, H38x.out]) (show 38 = (xo.cs xp xc).toArray.size by rw [List.size_toArray, H38x.out]) (by simpa using HONx.out) ?_
                  intro wX r11 hgX hsX
                  have hSX := hSb.grown hgX (by omega) (fun k e => by have := Option.some.inj e; omega)
                  have r12 := (hgX.block (wQ.heap.size) (by omega) (fun e => by have := Option.some.inj e; omega)).trans ra
                  refine hK _ _ hSX ?_
                  clear hK K
                  go_simp
                  refine Till.tail _ rfl rfl (by kernel_rfl) (by kernel_rfl) ?_
                  refine wpList_storeRow rfl 46 _ _ rfl r12 (by rfl) (yo.cs yp yc).toArray (by rfl) (by rw [opInfo, List.size_toArray, H38y.out]) (show 38 = (yo.cs yp yc).toArray.size by rw [List.size_toArray, H38y.out]) (by simpa using HONy.out) ?_
                  intro w99 hw99 hg99 hs99
                  have hL12 := (Array.getElem?_eq_some_iff.1 r12).1
                  have hL11 := (Array.getElem?_eq_some_iff.1 r11).1
                  have hF1 := Lib.hid (show cellsAt w99 (wQ.heap.size + 1) 0 (xo.cs xp xc) from fun j u hj => by rw [cell_of_row _ _ _ _ _ _ ((hg99.block _ hL11 (fun e => by have := Option.some.inj e; omega)).trans r11), Nat.zero_add]; simpa using hj)
                  have hF2 := Lib.hid (show cellsAt w99 (wQ.heap.size) 0 (yo.cs yp yc) from fun j u hj => by rw [cell_of_row _ _ _ _ _ _ hw99, Nat.zero_add]; simpa using hj)
                  have hF3 := Lib.hid ((hSX.mono hNQa).grown hg99 (by omega) (fun k e => by have := Option.some.inj e; omega))
                  have hq1 : w2.heap.size ≤ wQ.heap.size + 1 := by omega
                  have hq2 : w2.heap.size ≤ wQ.heap.size := by omega
                  have hq3 : wQ.heap.size + 1 < w99.heap.size := by omega
                  have hq4 : wQ.heap.size < w99.heap.size := by omega
                  clear r11 r12 hw99 hg99
                  go_wp2
                  refine NoPanic.normal ?_
                  go_wp2
                  go_meet
                  exact ⟨rfl, _, _, rfl, rfl, hq1, hq2, hq3, hq4, hF1, hF2, hF3⟩
              case rest =>
                obtain ⟨rfl, kx, ky, rfl, rfl, hkx, hky, hkxb, hkyb, HCX, HCY, HBC⟩ := hcut
                clear hul hul0 hwx hwy hxl hyl htx hty
                have hzc := HBC.out.size
                have HBw := Lib.hid (HB2.out.trans (HBC.out.mono (by omega)))
                have HKc := Lib.hid (show cellsAt wc wr.heap.size 0 m.cs from HK2.out.of_block (HBC.out.block _ (by omega)))
                have HRc := Lib.hid ((HBC.out.block k7 hk7c).trans HBX2.out.row)
                have HSXc := Lib.hid (HSRx.out.below HBC.out (Nat.le_refl _))
                have HSYc := Lib.hid (HSRy.out.below HBC.out (Nat.le_refl _))
                have hkx7 : kx ≠ k7 := by omega
                have hky7 : ky ≠ k7 := by omega
                clear kp0 kp1
                obtain ⟨nx, hnx⟩ : ∃ q, q = nameB xo := ⟨_, rfl⟩
                have HNx := Lib.hid (show nx.length = 32 by rw [hnx]; rfl)
                have hcnx : ∀ wz, Below wr.heap.size wr wz → Src wz xp (pcs xo.preds) → Calls Tryz.prog 17 #[.agg (xo.cs xp xc).toArray] wz fun e w' => e = .returned (.agg (bcs nx).toArray) ∧ Below wz.heap.size wz w' := fun wz hb hs => by
                  rw [hnx]
                  exact ropname_any xo HOKx.out xp xc wz (HT.out.of_below (HST.out.below.trans (hb.mono hszr)) HT.out.2.2) hs
                have HCNx := Lib.hid hcnx
                clear hcnx hnx
                obtain ⟨ny, hny⟩ : ∃ q, q = nameB yo := ⟨_, rfl⟩
                have HNy := Lib.hid (show ny.length = 32 by rw [hny]; rfl)
                have hcny : ∀ wz, Below wr.heap.size wr wz → Src wz yp (pcs yo.preds) → Calls Tryz.prog 17 #[.agg (yo.cs yp yc).toArray] wz fun e w' => e = .returned (.agg (bcs ny).toArray) ∧ Below wz.heap.size wz w' := fun wz hb hs => by
                  rw [hny]
                  exact ropname_any yo HOKy.out yp yc wz (HT.out.of_below (HST.out.below.trans (hb.mono hszr)) HT.out.2.2) hs
                have HCNy := Lib.hid hcny
                clear hcny hny
                go_upto_region 14 with fail
                obtain ⟨NR, hNRa, hNRb⟩ : ∃ n, wc.heap.size ≤ n ∧ n ≤ wc.heap.size := ⟨_, Nat.le_refl _, Nat.le_refl _⟩
                refine wp_region_noPanic ?_
                refine wp_region_till 9 (fun w' => Below NR wc w') (by kernel_rfl) (by kernel_rfl) ?_
                obtain ⟨wS, hwS⟩ : ∃ wS, wS = wc.drew := ⟨_, rfl⟩
                have hSwS : Below NR wc wS := by rw [hwS]; exact (Below.refl NR wc).drew
                rw [← hwS]
                have HSS := Lib.hid hSwS
                have hzwS : wc.heap.size ≤ wS.heap.size := by rw [hwS]; exact Nat.le_refl _
                clear hwS hSwS
                go_simp
                refine Till.pure 0 rfl rfl (by kernel_rfl) (NoPanic.noFrame _) HSS.out ?_
                go_big_quiet_step (fail)
                refine wpQuiet_nil ?_
                refine Till.load 1 44 _ ⟨wr.heap.size, 2, none⟩ (drv m.d) rfl rfl rfl rfl (by kernel_rfl) (NoPanic.noFrame _) HSS.out (fun w' hw' => run_loadAgg Tryz.underlying44 rfl (by rw [draftInfo, HDL.out]) (MkV.parts HMO.out (HKc.out.of_block (hw'.block _ (by omega)))).2.2.1) ?_
                go_simp
                refine Till.pure 2 rfl rfl (by kernel_rfl) (NoPanic.noFrame _) HSS.out ?_
                go_big_quiet_step (fail)
                refine wpQuiet_nil ?_
                refine Till.load 3 3 _ ⟨wr.heap.size, 1, none⟩ (.int .i64 m.author) rfl rfl rfl rfl (by kernel_rfl) (NoPanic.noFrame _) HSS.out (fun w' hw' => run_loadVar_one Tryz.underlying3 rfl (MkV.parts HMO.out (HKc.out.of_block (hw'.block _ (by omega)))).2.1) ?_
                go_simp
                refine Till.load 4 46 _ ⟨kx, 0, none⟩ (.agg (xo.cs xp xc).toArray) rfl rfl rfl rfl (by kernel_rfl) (NoPanic.noFrame _) HSS.out (fun w' hw' => run_loadAgg Tryz.underlying46 rfl (by rw [opInfo, H38x.out]) (HCX.out.of_block (hw'.block _ (by omega)))) ?_
                go_simp
                refine Till.act 5 rfl rfl (by kernel_rfl) rfl ?_
                intro K hK
                go_wp2_with (go_at_call 17; refine (HCNx.out wS (HBw.out.trans ((HSS.out.mono hNRa).mono (by omega))) (HSXc.out.below HSS.out hNRa)).mono ?_; rintro e w3 ⟨rfl, hb3⟩)
                have hz3 := hb3.size
                have hS3 := HSS.out.trans (hb3.mono (by omega))
                refine hK _ _ hS3 ?_
                clear hK K
                go_simp
                refine Till.act 6 rfl rfl (by kernel_rfl) rfl ?_
                intro K hK
                refine wp_buildOne 28 _ rfl 31 32 _ Tryz.underlying28 HI.out (by omega) (by omega) HZ.out (bcs nx).toArray (by rfl) (by rw [List.size_toArray, bcs_length, HNx.out]) ?_
                obtain ⟨w4, hw4⟩ : ∃ w4, w4 = w3.alloc (.cells (bcs nx).toArray 31) := ⟨_, rfl⟩
                have hsr4 : Src w4 (some ⟨w3.heap.size, 0, none⟩) (pcs [nx]) := by
                  rw [hw4, show pcs [nx] = bcs nx by simp [pcs]]
                  exact ⟨src_new w3 (bcs nx) 31⟩
                have hS4 : Below NR wc w4 := by rw [hw4]; exact hS3.alloc (by omega) _
                have hz4 : w3.heap.size ≤ w4.heap.size := by rw [hw4]; simp
                rw [← hw4]
                have HSR4 := Lib.hid hsr4
                have HS4 := Lib.hid hS4
                refine hK _ _ hS4 ?_
                clear hK K hw4 hsr4 hS4 hS3 hb3
                go_simp
                obtain ⟨X1, hX1⟩ : ∃ q, q = risingL [nx] := ⟨_, rfl⟩
                have hcr := rising_any [nx] (some ⟨w3.heap.size, 0, none⟩) 1 w4 (fun x hx => by rw [List.mem_singleton.1 hx]; exact HNx.out) HSR4.out (by simp)
                rw [← hX1] at hcr
                have HCR := Lib.hid hcr
                have HX32 := Lib.hid (show ∀ x ∈ X1, x.length = 32 by rw [hX1]; exact risingL_32 (fun x hx => by rw [List.mem_singleton.1 hx]; exact HNx.out))
                have hX1l : X1.length ≤ 1048576 := by rw [hX1, risingL_len]; simp
                clear hcr hX1
                refine Till.act 7 rfl rfl (by kernel_rfl) rfl ?_
                intro K hK
                go_wp2_with (go_at_call 64; refine HCR.out.mono ?_; rintro e w5 ⟨vR, rfl, hoR, hb5⟩; obtain ⟨pR, cR, rfl⟩ := hoR.form)
                have hz5 := hb5.size
                have hS5 := HS4.out.trans (hb5.mono (by omega))
                refine hK _ _ hS5 ?_
                clear hK K
                refine Till.val 8 (.agg (opCs m.d m.author pR X1.length cR).toArray) rfl rfl (by kernel_rfl) (NoPanic.noFrame _) hS5 (fun w' => exec_buildOp _ _ _ rfl HMO.out.d m.author pR X1.length cR (by rfl) (by rfl) (by rfl) w') ?_
                go_simp
                have hok1 : (⟨m.d, m.author, 0, X1⟩ : OpV).Ok := ⟨HMO.out.d, HMO.out.author.1, HMO.out.author.2, by simp, by simp, HX32.out, hX1l⟩
                have h38 : (opCs m.d m.author pR X1.length cR).length = 38 := OpV.cs_length hok1 pR cR
                have hone : ∀ u ∈ opCs m.d m.author pR X1.length cR, u.oneCell' = true := OpV.cs_one (⟨m.d, m.author, 0, X1⟩ : OpV) pR cR
                refine Till.tail _ rfl rfl (by kernel_rfl) (by kernel_rfl) ?_
                refine wpList_storeRow rfl 46 _ _ rfl ((hS5.block k7 (by omega)).trans HRc.out) (by rfl) (opCs m.d m.author pR X1.length cR).toArray (by rfl) (by rw [opInfo, List.size_toArray, h38]) (show (m.o.cs m.p m.c).toArray.size = (opCs m.d m.author pR X1.length cR).toArray.size by rw [List.size_toArray, List.size_toArray, h38, HO38.out]) (by simpa using hone) ?_
                intro w9 hw9 hg9 hs9
                have hz9 := hg9.size
                have hB9 : Below wr.heap.size wr w9 := (HBw.out.trans ((hS5.mono hNRa).mono (by omega))).grown hg9 (by omega) (fun k e => by have := Option.some.inj e; omega)
                have hblk : ∀ i, i < wc.heap.size → i ≠ k7 → w9.heap[i]? = wc.heap[i]? := fun i hi hne => (hg9.block i (by omega) (fun e => hne (Option.some.inj e))).trans (hS5.block i (by omega))
                have hRn : ∀ b off, pR = some ⟨b, off, none⟩ → w4.heap.size ≤ b := fun b off e => (hoR.at e).1
                have HBX9 := Lib.hid (show BoxOp w9 k7 B wr.heap.size (⟨m.d, m.author, 0, X1⟩ : OpV) pR cR from ⟨hok1, hw9, (Owns.srcOf hoR).of_blocks hz9 (fun b off e hlt _ => hg9.block b hlt (fun e2 => by
                  have h1 := Option.some.inj e2
                  have h2 := hRn b off e
                  omega)), fun b off e _ => .inr (by have := hRn b off e; omega)⟩)
                have HK9 := Lib.hid (show cellsAt w9 wr.heap.size 0 m.cs from HKc.out.of_block (hblk _ (by omega) (fun e => hk7b e.symm)))
                have HCX9 := Lib.hid (show cellsAt w9 kx 0 (xo.cs xp xc) from HCX.out.of_block (hblk _ hkxb hkx7))
                have HCY9 := Lib.hid (show cellsAt w9 ky 0 (yo.cs yp yc) from HCY.out.of_block (hblk _ hkyb hky7))
                have HB9 := Lib.hid hB9
                have HPN1 := Lib.hid (show ∀ off, pR ≠ some ⟨k7, off, none⟩ from fun off e => by have := hRn k7 off e; omega)
                have hz59 : wc.heap.size ≤ w9.heap.size := by omega
                have HSX9 := Lib.hid (HSXc.out.of_blocks hz59 (fun b off e hlt hne => hblk b hlt (fun e2 => by have := HATx.out b off e (pcs_ne hne); omega)))
                have HSY9 := Lib.hid (HSYc.out.of_blocks hz59 (fun b off e hlt hne => hblk b hlt (fun e2 => by have := HATy.out b off e (pcs_ne hne); omega)))
                clear hw9 hg9 hs9 hB9 hblk hRn hoR hb5 hS5 h38 hone hok1
                go_wp2
                refine NoPanic.normal ?_
                obtain ⟨dq, hdq⟩ : ∃ q, q = decide (xo = yo) := ⟨_, rfl⟩
                have hcs := same_any xo yo HOKx.out HOKy.out xp yp xc yc w9 HSX9.out HSY9.out
                rw [← hdq] at hcs
                have HCS := Lib.hid hcs
                clear hcs hdq
                go_upto_if 82 with (first
                  | (refine wpList_loadAgg _ rfl 46 _ rfl _ Tryz.underlying46 rfl kx 0 (by rfl) (xo.cs xp xc) (by rw [opInfo, H38x.out]) HCX9.out ?_)
                  | (refine wpList_loadAgg _ rfl 46 _ rfl _ Tryz.underlying46 rfl ky 0 (by rfl) (yo.cs yp yc) (by rw [opInfo, H38y.out]) HCY9.out ?_)
                  | (go_at_call 23; refine HCS.out.mono ?_; rintro e w10 ⟨rfl, hb10⟩))
                have hz10 := hb10.size
                have HBX10 := Lib.hid (HBX9.out.under hb10)
                have HK10 := Lib.hid (show cellsAt w10 wr.heap.size 0 m.cs from HK9.out.of_block (hb10.block _ (by omega)))
                have HCX10 := Lib.hid (show cellsAt w10 kx 0 (xo.cs xp xc) from HCX9.out.of_block (hb10.block _ (by omega)))
                have HCY10 := Lib.hid (show cellsAt w10 ky 0 (yo.cs yp yc) from HCY9.out.of_block (hb10.block _ (by omega)))
                have HB10 := Lib.hid (HB9.out.trans (hb10.mono (by omega)))
                have HSX10 := Lib.hid (HSX9.out.below hb10 (Nat.le_refl _))
                have HSY10 := Lib.hid (HSY9.out.below hb10 (Nat.le_refl _))
                clear hb10
                have hk79 : k7 < w10.heap.size := HBX10.out.lt
                have hkx9 : kx < w10.heap.size := by omega
                have hky9 : ky < w10.heap.size := by omega
                go_cut [16] from 16 to 126 (fun v16 wx => v16 = .int .i64 n ∧ ∃ (X : List Nm) (q : Option Addr) (c : Nat), Hid (BoxOp wx k7 B wr.heap.size (⟨m.d, m.author, 0, X⟩ : OpV) q c) ∧ Hid (Below wr.heap.size wr wx) ∧ Hid (cellsAt wx wr.heap.size 0 m.cs) ∧ Hid (cellsAt wx kx 0 (xo.cs xp xc)) ∧ Hid (cellsAt wx ky 0 (yo.cs yp yc)) ∧ Hid (∀ off, q ≠ some ⟨k7, off, none⟩))
                case first =>
                  cases dq with
                  | true =>
                    go_wp2
                    go_meet
                    exact ⟨rfl, X1, pR, cR, HBX10, HB10, HK10, HCX10, HCY10, HPN1⟩
                  | false =>
                    go_upto_region 16 with fail
                    obtain ⟨NU, hNUa, hNUb⟩ : ∃ n, w10.heap.size ≤ n ∧ n ≤ w10.heap.size := ⟨_, Nat.le_refl _, Nat.le_refl _⟩
                    refine wp_region_noPanic ?_
                    refine wp_region_till 7 (fun w' => Below NU w10 w') (by kernel_rfl) (by kernel_rfl) ?_
                    obtain ⟨wU, hwU⟩ : ∃ wU, wU = w10.drew := ⟨_, rfl⟩
                    have hSwU : Below NU w10 wU := by rw [hwU]; exact (Below.refl NU w10).drew
                    rw [← hwU]
                    have HSU := Lib.hid hSwU
                    have hzwU : w10.heap.size ≤ wU.heap.size := by rw [hwU]; exact Nat.le_refl _
                    clear hwU hSwU
                    go_simp
                    refine Till.load 0 46 _ ⟨kx, 0, none⟩ (.agg (xo.cs xp xc).toArray) rfl rfl rfl rfl (by kernel_rfl) (NoPanic.noFrame _) HSU.out (fun w' hw' => run_loadAgg Tryz.underlying46 rfl (by rw [opInfo, H38x.out]) (HCX10.out.of_block (hw'.block _ (by omega)))) ?_
                    go_simp
                    refine Till.load 2 46 _ ⟨ky, 0, none⟩ (.agg (yo.cs yp yc).toArray) rfl rfl rfl rfl (by kernel_rfl) (NoPanic.noFrame _) HSU.out (fun w' hw' => run_loadAgg Tryz.underlying46 rfl (by rw [opInfo, H38y.out]) (HCY10.out.of_block (hw'.block _ (by omega)))) ?_
                    go_simp
                    refine Till.act 1 rfl rfl (by kernel_rfl) rfl ?_
                    intro K hK
                    go_wp2_with (go_at_call 17; refine (HCNx.out wU (HB10.out.trans ((HSU.out.mono hNUa).mono (by omega))) (HSX10.out.below HSU.out hNUa)).mono ?_; rintro e w11 ⟨rfl, hb11⟩)
                    have hz11 := hb11.size
                    have hS11 := HSU.out.trans (hb11.mono (by omega))
                    refine hK _ _ hS11 ?_
                    clear hK K
                    go_simp
                    refine Till.act 3 rfl rfl (by kernel_rfl) rfl ?_
                    intro K hK
                    go_wp2_with (go_at_call 17; refine (HCNy.out w11 (HB10.out.trans ((hS11.mono hNUa).mono (by omega))) (HSY10.out.below hS11 hNUa)).mono ?_; rintro e w12 ⟨rfl, hb12⟩)
                    have hz12 := hb12.size
                    have hS12 := hS11.trans (hb12.mono (by omega))
                    refine hK _ _ hS12 ?_
                    clear hK K
                    go_simp
                    refine Till.act 4 rfl rfl (by kernel_rfl) rfl ?_
                    intro K hK
                    refine wp_buildTwo 28 _ _ rfl 31 32 _ Tryz.underlying28 HI.out (by omega) (by omega) HZ.out (bcs nx) (bcs ny) (by rfl) (by rfl) (by rw [bcs_length, HNx.out]) (by rw [bcs_length, HNy.out]) ?_
                    obtain ⟨w13, hw13⟩ : ∃ w13, w13 = w12.alloc (.cells (bcs nx ++ bcs ny).toArray 31) := ⟨_, rfl⟩
                    have hsr13 : Src w13 (some ⟨w12.heap.size, 0, none⟩) (pcs [nx, ny]) := by
                      rw [hw13, show pcs [nx, ny] = bcs nx ++ bcs ny by simp [pcs]]
                      exact ⟨src_new w12 (bcs nx ++ bcs ny) 31⟩
                    have hS13 : Below NU w10 w13 := by rw [hw13]; exact hS12.alloc (by omega) _
                    have hz13 : w12.heap.size ≤ w13.heap.size := by rw [hw13]; simp
                    rw [← hw13]
                    have HSR13 := Lib.hid hsr13
                    have HS13 := Lib.hid hS13
                    refine hK _ _ hS13 ?_
                    clear hK K hw13 hsr13 hS13 hS12 hS11 hb11 hb12
                    go_simp
                    obtain ⟨X2, hX2⟩ : ∃ q, q = risingL [nx, ny] := ⟨_, rfl⟩
                    have h2 : ∀ x ∈ [nx, ny], x.length = 32 := fun x hx => by
                      simp only [List.mem_cons, List.not_mem_nil, or_false] at hx
                      rcases hx with rfl | rfl
                      · exact HNx.out
                      · exact HNy.out
                    have hcr2 := rising_any [nx, ny] (some ⟨w12.heap.size, 0, none⟩) 2 w13 h2 HSR13.out (by simp)
                    rw [← hX2] at hcr2
                    have HCR2 := Lib.hid hcr2
                    have HX2 := Lib.hid (show ∀ x ∈ X2, x.length = 32 by rw [hX2]; exact risingL_32 h2)
                    have hX2l : X2.length ≤ 1048576 := by rw [hX2, risingL_len]; simp
                    clear hcr2 hX2 h2
                    refine Till.act 5 rfl rfl (by kernel_rfl) rfl ?_
                    intro K hK
                    go_wp2_with (go_at_call 64; refine HCR2.out.mono ?_; rintro e w14 ⟨vT, rfl, hoT, hb14⟩; obtain ⟨pT, cT, rfl⟩ := hoT.form)
                    have hz14 := hb14.size
                    have hS14 := HS13.out.trans (hb14.mono (by omega))
                    refine hK _ _ hS14 ?_
                    clear hK K
                    go_simp
                    refine Till.pure 6 rfl rfl (by kernel_rfl) (NoPanic.noFrame _) hS14 ?_
                    go_big_quiet_step (fail)
                    refine wpQuiet_nil ?_
                    refine Till.tail _ rfl rfl (by kernel_rfl) (by kernel_rfl) ?_
                    have HBX14 := Lib.hid (HBX10.out.below hS14 hNUa)
                    have hr14 := HBX14.out.row
                    have hc14 := (OpV.cs_at HBX14.out.ok HBX14.out.cells).2.2
                    have hf14 : w14.frozen? ⟨k7, 37, none⟩ = false := by simp [World.frozen?, hr14]
                    have HR14 := Lib.hid hr14
                    have HG14 := Lib.hid (grownBy_set w14 k7 37 (.slice pT X2.length cT))
                    have HB14 := Lib.hid (HB10.out.trans ((hS14.mono hNUa).mono (by omega)))
                    have HBS := Lib.hid (HB14.out.grown HG14.out (by omega) (fun k e => by have := Option.some.inj e; omega))
                    have HOT := Lib.hid hoT
                    have hblk : ∀ i, i < w10.heap.size → i ≠ k7 → (w14.setCell ⟨k7, 37, none⟩ (.slice pT X2.length cT)).heap[i]? = w10.heap[i]? := fun i hi hne => (HG14.out.block i (by omega) (fun e => hne (Option.some.inj e))).trans (hS14.block i (by omega))
                    have HBX15 := Lib.hid (show BoxOp (w14.setCell ⟨k7, 37, none⟩ (.slice pT X2.length cT)) k7 B wr.heap.size (⟨m.d, m.author, 0, X2⟩ : OpV) pT cT from
                      ⟨⟨HMO.out.d, HMO.out.author.1, HMO.out.author.2, by simp, by simp, HX2.out, hX2l⟩,
                        by rw [setCell_eq_setRow w14 k7 37 _ _ (0, 0) _ HR14.out, setRow_heap w14 k7 _ _ _ (0, 0) HR14.out, OpV.cs_preds HBX14.out.ok],
                        (Owns.srcOf HOT.out).of_blocks HG14.out.size (fun b off e hlt _ => HG14.out.block b hlt (fun e2 => by
                          have h1 := Option.some.inj e2
                          have h2 := (HOT.out.at e).1
                          omega)), fun b off e _ => .inr (by have := (HOT.out.at e).1; omega)⟩)
                    have HK15 := Lib.hid (show cellsAt (w14.setCell ⟨k7, 37, none⟩ (.slice pT X2.length cT)) wr.heap.size 0 m.cs from HK10.out.of_block (hblk _ (by omega) (fun e => hk7b e.symm)))
                    have HCX15 := Lib.hid (show cellsAt (w14.setCell ⟨k7, 37, none⟩ (.slice pT X2.length cT)) kx 0 (xo.cs xp xc) from HCX10.out.of_block (hblk _ hkx9 hkx7))
                    have HCY15 := Lib.hid (show cellsAt (w14.setCell ⟨k7, 37, none⟩ (.slice pT X2.length cT)) ky 0 (yo.cs yp yc) from HCY10.out.of_block (hblk _ hky9 hky7))
                    have HPN2 := Lib.hid (show ∀ off, pT ≠ some ⟨k7, off, none⟩ from fun off e => by have := (HOT.out.at e).1; omega)
                    clear hr14 hblk hoT hS14 hb14
                    go_wp2
                    refine NoPanic.normal ?_
                    go_wp2
                    go_meet
                    exact ⟨rfl, X2, pT, cT, HBX15, HBS, HK15, HCX15, HCY15, HPN2⟩
                case rest =>
                  obtain ⟨rfl, X3, p3, c3, HBX3, HB3, HK3, HCX3, HCY3, HPN⟩ := hcut
                  have hd1 := (OpV.cs_at HOKx.out HCX3.out).2.1
                  have hd2 := (OpV.cs_at HOKy.out HCY3.out).2.1
                  have hd3 := (MkV.parts HMO.out HK3.out).2.2.2.2.2.1
                  have hr3 := HBX3.out.row
                  have hd4 := (OpV.cs_at HBX3.out.ok HBX3.out.cells).2.1
                  have hf3 : wc.frozen? ⟨k7, 36, none⟩ = false := by simp [World.frozen?, hr3]
                  clear hr3
                  go_upto_region 18 with fail
                  obtain ⟨DD, hDD⟩ : ∃ D, D = wrap64 (wrap64 (1 + max xo.depth yo.depth) + m.deep.tmod 3) := ⟨_, rfl⟩
                  rw [← hDD]
                  have hDR : i64R DD := by rw [hDD]; exact wrap64_R _
                  obtain ⟨wZ, hwZ⟩ : ∃ wZ, wZ = wc.setCell ⟨k7, 36, none⟩ (.int .i64 DD) := ⟨_, rfl⟩
                  rw [← hwZ]
                  obtain ⟨z, hz'⟩ : ∃ z : OpV, z = ⟨m.d, m.author, DD, X3⟩ := ⟨_, rfl⟩
                  have hgZ : wc.grownBy wZ (some k7) := by rw [hwZ]; exact grownBy_set _ _ _ _
                  have hbz := HBX3.out.lt
                  have HBXZ := Lib.hid (show BoxOp wZ k7 B wr.heap.size z p3 c3 from by
                    rw [hz']
                    refine ⟨⟨HMO.out.d, HMO.out.author.1, HMO.out.author.2, hDR.1, hDR.2, HBX3.out.ok.ids, HBX3.out.ok.len⟩, ?_, HBX3.out.src.of_blocks hgZ.size (fun b off e hlt _ => hgZ.block b hlt (fun e2 => ?_)), HBX3.out.at_⟩
                    · rw [hwZ, setCell_eq_setRow wc k7 36 _ _ (0, 0) _ HBX3.out.row, setRow_heap wc k7 _ _ _ (0, 0) HBX3.out.row, OpV.cs_depth HBX3.out.ok]
                    · have h1 := Option.some.inj e2
                      exact HPN.out off (by rw [e, h1]))
                  have hzB := hgZ.size
                  have HBZ := Lib.hid (HB3.out.grown hgZ HB3.out.size (fun k e => by have := Option.some.inj e; omega))
                  clear hwZ hgZ hDD hDR hz' hd1 hd2 hd3 hd4 hf3 HBX3 HB3 HK3 HCX3 HCY3
                  have hcpz := (OpV.cs_at HBXZ.out.ok HBXZ.out.cells).2.2
                  have hckz : wZ.cell? ⟨k7, 1, none⟩ = some (txt z.d.key) := by simpa using (OpV.cs_d HBXZ.out.cells).key
                  have hcvz : wZ.cell? ⟨k7, 2, none⟩ = some (txt z.d.value) := by simpa using (OpV.cs_d HBXZ.out.cells).value
                  have HSTz := Lib.hid (HST.out.under HBZ.out)
                  have hzXz := HBZ.out.size
                  go_upto_region 19 with fail
                  all_goals first
                    | (refine ⟨⟨n + 1, by omega, by omega, by first | omega | go_num | (push_cast; rfl), _, _, _, _, _, _, _, _, _, Lib.hid (HSTz.out.le (Nat.le_succ n))⟩, ?_⟩
                       simp [intOf] <;> omega)
                    | (go_roundw
                       case rel => exact ⟨n + 1, _, _, _, _, _, _, _, _, _, by omega, by omega, by go_num, Lib.hid (HSTz.out.le (Nat.le_succ n))⟩
                       case measure => simp [intOf] <;> omega)
                    | skip
                  clear hcpz hckz hcvz
                  have HMORz := Lib.hid (show MadeSt w wZ w.heap.size n (.slice (some ⟨gL, oL, none⟩) L.length cv) vo vw vn vm F (fun i => B i ∨ (wr.heap.size ≤ i ∧ i < wZ.heap.size)) O W L from HSTz.out.more (n0 := wr.heap.size) (fun i hi => .inl hi) (fun i hi => hi) HFR.out (fun g hg => (HST.out.own.lt hg).2))
                  have HATz := Lib.hid (show ∀ i off, p3 = some ⟨i, off, none⟩ → z.preds ≠ [] → B i ∨ (wr.heap.size ≤ i ∧ i < wZ.heap.size) from fun i off e hne => (HBXZ.out.at_ i off e hne).imp id (fun h => ⟨h, HBXZ.out.src.lt (ne_pcs HBXZ.out.ok.ids hne) i off e⟩))
                  have HCALLz := Lib.hid (rtake_any w.heap.size vo vw vn vm F (fun i => B i ∨ (wr.heap.size ≤ i ∧ i < wZ.heap.size)) O W z HBXZ.out.ok p3 c3 wZ (HT.out.of_below HSTz.out.below HT.out.2.2) HMORz.out.set HSTz.out.inv HBXZ.out.src HATz.out (Nat.le_trans HSTz.out.len (by omega)))
                  obtain ⟨rsz, hrsz⟩ : ∃ q, q = takeD ⟨O.map E3.ent, W.map E3.ent⟩ z := ⟨_, rfl⟩
                  have HINz := Lib.hid (show DInv rsz.1 by rw [hrsz]; exact HSTz.out.inv.take z)
                  have HLNz := Lib.hid (show rsz.1.ops.length + rsz.1.wait.length ≤ O.length + W.length + 1 by rw [hrsz]; simpa using takeD_len ⟨O.map E3.ent, W.map E3.ent⟩ z)
                  rw [← hrsz] at HCALLz
                  clear hrsz
                  go_upto_region 20 with (first
                    | (refine wpList_loadAgg _ rfl 46 _ rfl _ Tryz.underlying46 rfl k7 0 (by rfl) (z.cs p3 c3) (by rw [opInfo, OpV.cs_length HBXZ.out.ok]) HBXZ.out.cells ?_)
                    | (go_at_call 36; refine HCALLz.out.mono ?_; rintro e wTz ⟨vtz, voz, vwz, vnz, vmz, Fz, Oz, Wz, rfl, hOz, hWz, hsetz, hFz, hotz, hkkz⟩))
                  have HTKz := Lib.hid (show MadeSt w wTz w.heap.size (n + 1) (.slice (some ⟨gL, oL, none⟩) L.length cv) voz vwz vnz vmz Fz (fun i => B i ∨ (wr.heap.size ≤ i ∧ i < wZ.heap.size)) Oz Wz L from HMORz.out.took hsetz hFz hkkz (by rw [hOz, hWz]; exact HINz.out) (by
                    have h1 := HLNz.out
                    have h2 := len_ent hOz
                    have h3 := len_ent hWz
                    have h4 := HSTz.out.len
                    omega))
                  have HLLz := Lib.hid (show L.length + 1 ≤ n + 1 from Nat.succ_le_succ HSTz.out.llen)
                  have hllz : L.length ≤ 30 := Nat.le_trans HSTz.out.llen hn2
                  have hrowz : wTz.heap[k7]? = some (.cells (z.cs p3 c3).toArray 46 (0, 0)) := (hkkz.block _ HBXZ.out.lt (fun hf => by have := HFR.out k7 hf; omega)).trans HBXZ.out.row
                  have HCTz := Lib.hid (show cellsAt wTz k7 0 (z.cs p3 c3) from fun j u hj => by rw [cell_of_row _ _ _ _ _ _ hrowz, Nat.zero_add]; simpa using hj)
                  have HEz := Lib.hid (show (⟨zeroId, z, p3, c3⟩ : E3).Ok wTz (fun i => B i ∨ (wr.heap.size ≤ i ∧ i < wZ.heap.size)) from (show (⟨zeroId, z, p3, c3⟩ : E3).Ok wZ (fun i => B i ∨ (wr.heap.size ≤ i ∧ i < wZ.heap.size)) from ⟨HBXZ.out.ok, rfl, HBXZ.out.src, HATz.out⟩).keeps hkkz.size (fun i hi hB => hkkz.block i hi (fun hf => HMORz.out.set.apart i hf hB)))
                  have HXLz := Lib.hid (OpV.cs_length HBXZ.out.ok p3 c3)
                  have HX1z := Lib.hid (OpV.cs_one z p3 c3)
                  have hzTz := hkkz.size
                  have hwTz := HTKz.out.below.size
                  clear hsetz hFz hotz hkkz hOz hWz hrowz
                  go_wp2_with (first
                    | (refine wpList_loadAgg _ rfl 46 _ rfl _ Tryz.underlying46 rfl k7 0 (by rfl) (z.cs p3 c3) (by rw [opInfo, HXLz.out]) HCTz.out ?_)
                    | (refine wpList_buildOne _ rfl 35 _ rfl 46 38 _ Tryz.underlying35 opInfo (by omega) (by omega) HZO.out (z.cs p3 c3).toArray (by rfl) (by rw [List.size_toArray, HXLz.out]) ?_)
                    | (at_builtin; refine wpList_append_G rfl _ _ 35 rfl w.heap.size 46 io _ 38 112 Tryz.underlying35 hio hoz0 hoz1 hoz2 (by rfl) (by omega) (.slice (some ⟨gL, oL, none⟩) L.length cv) L.length (ocs L) (by rfl) (HTKz.out.own.alloc _) (some ⟨wTz.heap.size, 0, none⟩) 1 1 (z.cs p3 c3) (by rfl) (by rw [HXLz.out]) (src_new wTz (z.cs p3 c3) 46) (fun a e => by cases e; rfl) HX1z.out (by unfold maxLen; omega) (by omega) (by rw [World.size_alloc]; omega) ?_; intro v9z w9z hownz hgz hsz))
                  have HFINz := Lib.hid (HTKz.out.push (e := ⟨zeroId, z, p3, c3⟩) HLLz.out HEz.out hownz hgz hsz)
                  clear hownz hgz hsz
                  go_roundw
                  case rel => exact ⟨n + 1, _, _, _, _, _, _, _, _, _, by omega, by omega, by go_num, HFINz⟩
                  case measure => simp [intOf] <;> omega
            · have dl : decide ((L.length : Int) > 0) = false := decide_eq_false (by omega)
              obtain ⟨pv, cv, hpv⟩ := HST.out.own.form
              subst hpv
              have hcpb := (OpV.cs_at HBX2.out.ok HBX2.out.cells).2.2
              have hckb : w2.cell? ⟨k7, 1, none⟩ = some (txt m.o.d.key) := by simpa using (OpV.cs_d HBX2.out.cells).key
              have hcvb : w2.cell? ⟨k7, 2, none⟩ = some (txt m.o.d.value) := by simpa using (OpV.cs_d HBX2.out.cells).value
              have HSTb := Lib.hid (HST.out.under HB2.out)
              have hzXb := HB2.out.size
              go_upto_region 19 with fail
              all_goals first
                | (refine ⟨⟨n + 1, by omega, by omega, by first | omega | go_num | (push_cast; rfl), _, _, _, _, _, _, _, _, _, Lib.hid (HSTb.out.le (Nat.le_succ n))⟩, ?_⟩
                   simp [intOf] <;> omega)
                | (go_roundw
                   case rel => exact ⟨n + 1, _, _, _, _, _, _, _, _, _, by omega, by omega, by go_num, Lib.hid (HSTb.out.le (Nat.le_succ n))⟩
                   case measure => simp [intOf] <;> omega)
                | skip
              clear hcpb hckb hcvb
              have HMORb := Lib.hid (show MadeSt w w2 w.heap.size n (.slice pv L.length cv) vo vw vn vm F (fun i => B i ∨ (wr.heap.size ≤ i ∧ i < w2.heap.size)) O W L from HSTb.out.more (n0 := wr.heap.size) (fun i hi => .inl hi) (fun i hi => hi) HFR.out (fun g hg => (HST.out.own.lt hg).2))
              have HATb := Lib.hid (show ∀ i off, m.p = some ⟨i, off, none⟩ → m.o.preds ≠ [] → B i ∨ (wr.heap.size ≤ i ∧ i < w2.heap.size) from fun i off e hne => (HBX2.out.at_ i off e hne).imp id (fun h => ⟨h, HBX2.out.src.lt (ne_pcs HBX2.out.ok.ids hne) i off e⟩))
              have HCALLb := Lib.hid (rtake_any w.heap.size vo vw vn vm F (fun i => B i ∨ (wr.heap.size ≤ i ∧ i < w2.heap.size)) O W m.o HBX2.out.ok m.p m.c w2 (HT.out.of_below HSTb.out.below HT.out.2.2) HMORb.out.set HSTb.out.inv HBX2.out.src HATb.out (Nat.le_trans HSTb.out.len (by omega)))
              obtain ⟨rsb, hrsb⟩ : ∃ q, q = takeD ⟨O.map E3.ent, W.map E3.ent⟩ m.o := ⟨_, rfl⟩
              have HINb := Lib.hid (show DInv rsb.1 by rw [hrsb]; exact HSTb.out.inv.take m.o)
              have HLNb := Lib.hid (show rsb.1.ops.length + rsb.1.wait.length ≤ O.length + W.length + 1 by rw [hrsb]; simpa using takeD_len ⟨O.map E3.ent, W.map E3.ent⟩ m.o)
              rw [← hrsb] at HCALLb
              clear hrsb
              go_upto_region 20 with (first
                | (refine wpList_loadAgg _ rfl 46 _ rfl _ Tryz.underlying46 rfl k7 0 (by rfl) (m.o.cs m.p m.c) (by rw [opInfo, OpV.cs_length HBX2.out.ok]) HBX2.out.cells ?_)
                | (go_at_call 36; refine HCALLb.out.mono ?_; rintro e wTb ⟨vtb, vob, vwb, vnb, vmb, Fb, Ob, Wb, rfl, hOb, hWb, hsetb, hFb, hotb, hkkb⟩))
              have HTKb := Lib.hid (show MadeSt w wTb w.heap.size (n + 1) (.slice pv L.length cv) vob vwb vnb vmb Fb (fun i => B i ∨ (wr.heap.size ≤ i ∧ i < w2.heap.size)) Ob Wb L from HMORb.out.took hsetb hFb hkkb (by rw [hOb, hWb]; exact HINb.out) (by
                have h1 := HLNb.out
                have h2 := len_ent hOb
                have h3 := len_ent hWb
                have h4 := HSTb.out.len
                omega))
              have HLLb := Lib.hid (show L.length + 1 ≤ n + 1 from Nat.succ_le_succ HSTb.out.llen)
              have hllb : L.length ≤ 30 := Nat.le_trans HSTb.out.llen hn2
              have hrowb : wTb.heap[k7]? = some (.cells (m.o.cs m.p m.c).toArray 46 (0, 0)) := (hkkb.block _ HBX2.out.lt (fun hf => by have := HFR.out k7 hf; omega)).trans HBX2.out.row
              have HCTb := Lib.hid (show cellsAt wTb k7 0 (m.o.cs m.p m.c) from fun j u hj => by rw [cell_of_row _ _ _ _ _ _ hrowb, Nat.zero_add]; simpa using hj)
              have HEb := Lib.hid (show (⟨zeroId, m.o, m.p, m.c⟩ : E3).Ok wTb (fun i => B i ∨ (wr.heap.size ≤ i ∧ i < w2.heap.size)) from (show (⟨zeroId, m.o, m.p, m.c⟩ : E3).Ok w2 (fun i => B i ∨ (wr.heap.size ≤ i ∧ i < w2.heap.size)) from ⟨HBX2.out.ok, rfl, HBX2.out.src, HATb.out⟩).keeps hkkb.size (fun i hi hB => hkkb.block i hi (fun hf => HMORb.out.set.apart i hf hB)))
              have HXLb := Lib.hid (OpV.cs_length HBX2.out.ok m.p m.c)
              have HX1b := Lib.hid (OpV.cs_one m.o m.p m.c)
              have hzTb := hkkb.size
              have hwTb := HTKb.out.below.size
              clear hsetb hFb hotb hkkb hOb hWb hrowb
              go_wp2_with (first
                | (refine wpList_loadAgg _ rfl 46 _ rfl _ Tryz.underlying46 rfl k7 0 (by rfl) (m.o.cs m.p m.c) (by rw [opInfo, HXLb.out]) HCTb.out ?_)
                | (refine wpList_buildOne _ rfl 35 _ rfl 46 38 _ Tryz.underlying35 opInfo (by omega) (by omega) HZO.out (m.o.cs m.p m.c).toArray (by rfl) (by rw [List.size_toArray, HXLb.out]) ?_)
                | (at_builtin; refine wpList_append_G rfl _ _ 35 rfl w.heap.size 46 io _ 38 112 Tryz.underlying35 hio hoz0 hoz1 hoz2 (by rfl) (by omega) (.slice pv L.length cv) L.length (ocs L) (by rfl) (HTKb.out.own.alloc _) (some ⟨wTb.heap.size, 0, none⟩) 1 1 (m.o.cs m.p m.c) (by rfl) (by rw [HXLb.out]) (src_new wTb (m.o.cs m.p m.c) 46) (fun a e => by cases e; rfl) HX1b.out (by unfold maxLen; omega) (by omega) (by rw [World.size_alloc]; omega) ?_; intro v9b w9b hownb hgb hsb))
              have HFINb := Lib.hid (HTKb.out.push (e := ⟨zeroId, m.o, m.p, m.c⟩) HLLb.out HEb.out hownb hgb hsb)
              clear hownb hgb hsb
              go_roundw
              case rel => exact ⟨n + 1, _, _, _, _, _, _, _, _, _, by omega, by omega, by go_num, HFINb⟩
              case measure => simp [intOf] <;> omega
          · have dk1 : (m.kind == 1) = false := by simp [hk1]
            have hcpc := (OpV.cs_at HBX2.out.ok HBX2.out.cells).2.2
            have hckc : w2.cell? ⟨k7, 1, none⟩ = some (txt m.o.d.key) := by simpa using (OpV.cs_d HBX2.out.cells).key
            have hcvc : w2.cell? ⟨k7, 2, none⟩ = some (txt m.o.d.value) := by simpa using (OpV.cs_d HBX2.out.cells).value
            have HSTc := Lib.hid (HST.out.under HB2.out)
            have hzXc := HB2.out.size
            go_upto_region 19 with fail
            all_goals first
              | (refine ⟨⟨n + 1, by omega, by omega, by first | omega | go_num | (push_cast; rfl), _, _, _, _, _, _, _, _, _, Lib.hid (HSTc.out.le (Nat.le_succ n))⟩, ?_⟩
                 simp [intOf] <;> omega)
              | (go_roundw
                 case rel => exact ⟨n + 1, _, _, _, _, _, _, _, _, _, by omega, by omega, by go_num, Lib.hid (HSTc.out.le (Nat.le_succ n))⟩
                 case measure => simp [intOf] <;> omega)
              | skip
            clear hcpc hckc hcvc
            have HMORc := Lib.hid (show MadeSt w w2 w.heap.size n u4 vo vw vn vm F (fun i => B i ∨ (wr.heap.size ≤ i ∧ i < w2.heap.size)) O W L from HSTc.out.more (n0 := wr.heap.size) (fun i hi => .inl hi) (fun i hi => hi) HFR.out (fun g hg => (HST.out.own.lt hg).2))
            have HATc := Lib.hid (show ∀ i off, m.p = some ⟨i, off, none⟩ → m.o.preds ≠ [] → B i ∨ (wr.heap.size ≤ i ∧ i < w2.heap.size) from fun i off e hne => (HBX2.out.at_ i off e hne).imp id (fun h => ⟨h, HBX2.out.src.lt (ne_pcs HBX2.out.ok.ids hne) i off e⟩))
            have HCALLc := Lib.hid (rtake_any w.heap.size vo vw vn vm F (fun i => B i ∨ (wr.heap.size ≤ i ∧ i < w2.heap.size)) O W m.o HBX2.out.ok m.p m.c w2 (HT.out.of_below HSTc.out.below HT.out.2.2) HMORc.out.set HSTc.out.inv HBX2.out.src HATc.out (Nat.le_trans HSTc.out.len (by omega)))
            obtain ⟨rsc, hrsc⟩ : ∃ q, q = takeD ⟨O.map E3.ent, W.map E3.ent⟩ m.o := ⟨_, rfl⟩
            have HINc := Lib.hid (show DInv rsc.1 by rw [hrsc]; exact HSTc.out.inv.take m.o)
            have HLNc := Lib.hid (show rsc.1.ops.length + rsc.1.wait.length ≤ O.length + W.length + 1 by rw [hrsc]; simpa using takeD_len ⟨O.map E3.ent, W.map E3.ent⟩ m.o)
            rw [← hrsc] at HCALLc
            clear hrsc
            go_upto_region 20 with (first
              | (refine wpList_loadAgg _ rfl 46 _ rfl _ Tryz.underlying46 rfl k7 0 (by rfl) (m.o.cs m.p m.c) (by rw [opInfo, OpV.cs_length HBX2.out.ok]) HBX2.out.cells ?_)
              | (go_at_call 36; refine HCALLc.out.mono ?_; rintro e wTc ⟨vtc, voc, vwc, vnc, vmc, Fc, Oc, Wc, rfl, hOc, hWc, hsetc, hFc, hotc, hkkc⟩))
            have HTKc := Lib.hid (show MadeSt w wTc w.heap.size (n + 1) u4 voc vwc vnc vmc Fc (fun i => B i ∨ (wr.heap.size ≤ i ∧ i < w2.heap.size)) Oc Wc L from HMORc.out.took hsetc hFc hkkc (by rw [hOc, hWc]; exact HINc.out) (by
              have h1 := HLNc.out
              have h2 := len_ent hOc
              have h3 := len_ent hWc
              have h4 := HSTc.out.len
              omega))
            have HLLc := Lib.hid (show L.length + 1 ≤ n + 1 from Nat.succ_le_succ HSTc.out.llen)
            have hllc : L.length ≤ 30 := Nat.le_trans HSTc.out.llen hn2
            have hrowc : wTc.heap[k7]? = some (.cells (m.o.cs m.p m.c).toArray 46 (0, 0)) := (hkkc.block _ HBX2.out.lt (fun hf => by have := HFR.out k7 hf; omega)).trans HBX2.out.row
            have HCTc := Lib.hid (show cellsAt wTc k7 0 (m.o.cs m.p m.c) from fun j u hj => by rw [cell_of_row _ _ _ _ _ _ hrowc, Nat.zero_add]; simpa using hj)
            have HEc := Lib.hid (show (⟨zeroId, m.o, m.p, m.c⟩ : E3).Ok wTc (fun i => B i ∨ (wr.heap.size ≤ i ∧ i < w2.heap.size)) from (show (⟨zeroId, m.o, m.p, m.c⟩ : E3).Ok w2 (fun i => B i ∨ (wr.heap.size ≤ i ∧ i < w2.heap.size)) from ⟨HBX2.out.ok, rfl, HBX2.out.src, HATc.out⟩).keeps hkkc.size (fun i hi hB => hkkc.block i hi (fun hf => HMORc.out.set.apart i hf hB)))
            have HXLc := Lib.hid (OpV.cs_length HBX2.out.ok m.p m.c)
            have HX1c := Lib.hid (OpV.cs_one m.o m.p m.c)
            have hzTc := hkkc.size
            have hwTc := HTKc.out.below.size
            clear hsetc hFc hotc hkkc hOc hWc hrowc
            go_wp2_with (first
              | (refine wpList_loadAgg _ rfl 46 _ rfl _ Tryz.underlying46 rfl k7 0 (by rfl) (m.o.cs m.p m.c) (by rw [opInfo, HXLc.out]) HCTc.out ?_)
              | (refine wpList_buildOne _ rfl 35 _ rfl 46 38 _ Tryz.underlying35 opInfo (by omega) (by omega) HZO.out (m.o.cs m.p m.c).toArray (by rfl) (by rw [List.size_toArray, HXLc.out]) ?_)
              | (at_builtin; refine wpList_append_G rfl _ _ 35 rfl w.heap.size 46 io _ 38 112 Tryz.underlying35 hio hoz0 hoz1 hoz2 (by rfl) (by omega) u4 L.length (ocs L) (by rfl) (HTKc.out.own.alloc _) (some ⟨wTc.heap.size, 0, none⟩) 1 1 (m.o.cs m.p m.c) (by rfl) (by rw [HXLc.out]) (src_new wTc (m.o.cs m.p m.c) 46) (fun a e => by cases e; rfl) HX1c.out (by unfold maxLen; omega) (by omega) (by rw [World.size_alloc]; omega) ?_; intro v9c w9c hownc hgc hsc))
            have HFINc := Lib.hid (HTKc.out.push (e := ⟨zeroId, m.o, m.p, m.c⟩) HLLc.out HEc.out hownc hgc hsc)
            clear hownc hgc hsc
            go_roundw
            case rel => exact ⟨n + 1, _, _, _, _, _, _, _, _, _, by omega, by omega, by go_num, HFINc⟩
            case measure => simp [intOf] <;> omega
    · have hnl : n = M.length := by omega
      subst hnl
      go_wp2
      go_ret
      exact ⟨_, L, B, rfl, HST.out.out hn2⟩
end Go.Proofs.YtfoifdhcelcgiaaGreatDoor
