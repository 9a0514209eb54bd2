/-
  line.Row: the operations of a set in their row, in memory of the call's own.
-/
import Derived.Test.YtfoifdhcelcgiaaGreatDoorLineO
namespace Go.Proofs.YtfoifdhcelcgiaaGreatDoor
open Go Go.RowKit

/-- a list of operations in a new row -/
structure RowOut (w w' : World) (v : Value) (R : List E3) (B : Nat → Prop) : Prop where
  own : Owns w' w.heap.size 46 38 v R.length (ocs R)
  okR : ∀ e ∈ R, e.Ok w' B
  vB : ∀ g, v.ownBlock = some g → ¬ B g
  blt : ∀ i, B i → w.heap.size ≤ i ∧ i < w'.heap.size
  below : Below w.heap.size w w'
section
variable {w w0 w' wx : World} {v : Value} {R : List E3} {B : Nat → Prop}
theorem RowOut.nil (w : World) : RowOut w w (.slice none 0 0) [] (fun _ => False) := ⟨Owns.nil _ _ _ _, by simp, fun g h => by simp [Value.ownBlock] at h, fun i h => h.elim, Below.refl _ _⟩
theorem RowOut.under (h : RowOut w w' v R B) (hb : Below w'.heap.size w' wx) : RowOut w wx v R B :=
  ⟨h.own.under hb, fun e he => (h.okR e he).keeps hb.size (fun i hi _ => hb.block i hi), h.vB, fun i hi => ⟨(h.blt i hi).1, Nat.lt_of_lt_of_le (h.blt i hi).2 hb.size⟩, h.below.trans (hb.mono h.below.size)⟩
theorem RowOut.from (h : RowOut w w' v R B) (hb : Below w0.heap.size w0 w) : RowOut w0 w' v R B :=
  ⟨h.own.down hb.size, h.okR, h.vB, fun i hi => ⟨Nat.le_trans hb.size (h.blt i hi).1, (h.blt i hi).2⟩, hb.trans (h.below.mono hb.size)⟩
theorem RowOut.cs38 (h : RowOut w w' v R B) : ∀ e ∈ R, e.cs.length = 38 := fun e he => OpV.cs_length (h.okR e he).ok _ _
/-- one more, of which what it leans on lies in rows of the call's own -/
theorem RowOut.push {e : E3} {w9 : World} {v9 : Value} {S : Nat → Prop} (h : RowOut w wx v R B) (he : e.Ok wx S) (hS : ∀ i, S i → w.heap.size ≤ i ∧ i < wx.heap.size ∧ v.ownBlock ≠ some i)
    (ho : Owns w9 w.heap.size 46 38 v9 (R.length + 1) (ocs R ++ e.cs)) (hg : (wx.alloc (.cells e.cs.toArray 46)).grownBy w9 v.ownBlock) (hs : v9.ownBlock = v.ownBlock ∨ v9.ownBlock = some (wx.alloc (.cells e.cs.toArray 46)).heap.size) :
    RowOut w w9 v9 (R ++ [e]) (fun i => B i ∨ S i) := by
  have hz := hg.size
  rw [World.size_alloc] at hz hs
  have hk : ∀ j, j < wx.heap.size → v.ownBlock ≠ some j → w9.heap[j]? = wx.heap[j]? := fun j hj hne => (hg.block j (by rw [World.size_alloc]; omega) (fun e => hne e.symm)).trans ((MapKept.heap_alloc _ _).2 _ hj)
  have hz0 := h.below.size
  refine ⟨?_, ?_, ?_, ?_, ?_⟩
  · have e1 : ocs (R ++ [e]) = ocs R ++ e.cs := by simp [ocs]
    rw [e1, List.length_append]
    exact ho
  · intro x hx
    rcases List.mem_append.1 hx with hx | hx
    · exact ((h.okR x hx).keeps (by omega) (fun i hi hB => hk i hi (fun e => h.vB i e hB))).mono (fun i hi => .inl hi)
    · rw [List.mem_singleton.1 hx]
      exact (he.keeps (by omega) (fun i hi hB => hk i hi (hS i hB).2.2)).mono (fun i hi => .inr hi)
  · intro g hg' hB
    rcases hs with h1 | h1
    · rw [h1] at hg'
      exact hB.elim (h.vB g hg') (fun h2 => (hS g h2).2.2 hg')
    · rw [h1] at hg'
      have h2 := Option.some.inj hg'
      exact hB.elim (fun h3 => by have := (h.blt g h3).2; omega) (fun h3 => by have := (hS g h3).2.1; omega)
  · intro i hi
    exact hi.elim (fun h3 => by have := h.blt i h3; omega) (fun h3 => by have := hS i h3; omega)
  · exact h.below.trans ⟨hg.os, hg.tape, hg.output, by omega, fun j hj => hk j (by omega) (fun e => by have := (h.own.lt e).1; omega)⟩
end

theorem rowL_at {l : List NOp} (hd : (namesOf l).Nodup) {n : Nat} {x : Nm} {o : OpV} (hx : (namesOf (rowL l))[n]? = some x) (ho : opAt l x = some o) : (rowL l).take (n + 1) = (rowL l).take n ++ [(x, o)] := by
  have h1 : (rowL l)[n]? = some (x, o) := by
    unfold namesOf at hx
    rw [List.getElem?_map] at hx
    obtain ⟨e, he, hex⟩ := Option.map_eq_some_iff.1 hx
    have hm := rowL_mem.1 (List.mem_of_getElem? he)
    have h2 := opAt_some ho
    rw [he, names_inj hd hm h2 (by simpa using hex)]
  rw [List.take_add_one, h1]
  rfl

set_option maxRecDepth 100000 in
set_option maxHeartbeats 16000000 in
theorem row_any (b mo mw mt : Nat) (B : Nat → Prop) (O W : List E3) (T : List (Nm × Nat)) (w : World) (h : DagSet w b mo mw mt B O W T) (hI : DInv ⟨O.map E3.ent, W.map E3.ent⟩) (hL : O.length ≤ 1000000) :
    Calls Tryz.prog 16 #[.pointer (some ⟨b, 0, none⟩)] w fun e w' => ∃ v R BR, e = .returned v ∧ R.map E3.ent = rowL (O.map E3.ent) ∧ RowOut w w' v R BR := by
  obtain ⟨hz, hid⟩ := info_two idInfo
  obtain ⟨hzo, _⟩ := info_two opZero
  obtain ⟨io, hio, hoz0, hoz1, hoz2⟩ := info_parts opInfo3
  have HZ := Lib.hid hz
  have HI := Lib.hid hid
  have HZO := Lib.hid hzo
  have HD := Lib.hid h
  have HIN := Lib.hid hI
  obtain ⟨X, hX⟩ : ∃ X, X = namesOf (rowL (O.map E3.ent)) := ⟨_, rfl⟩
  have hco := order_any b mo mw mt B O W T w h hI hL
  rw [← hX] at hco
  have HCO := Lib.hid hco
  have HXM := Lib.hid (show ∀ x ∈ X, x ∈ O.map (·.n) from fun x hx => by
    rw [hX] at hx
    obtain ⟨e, he, rfl⟩ := List.mem_map.1 hx
    obtain ⟨e3, he3, rfl⟩ := List.mem_map.1 (rowL_mem.1 he)
    exact List.mem_map.2 ⟨e3, he3, rfl⟩)
  have HX32 := Lib.hid (show ∀ x ∈ X, x.length = 32 from fun x hx => by
    obtain ⟨e, he, rfl⟩ := List.mem_map.1 (HXM.out x hx)
    exact (h.okO e he).len)
  have HXH := Lib.hid (show ∀ x ∈ X, hasN (O.map E3.ent) x = true from fun x hx => (hasN_mem O x).2 (HXM.out x hx))
  have HXX := Lib.hid hX
  have hXl : X.length ≤ 1000000 := by rw [hX]; unfold namesOf; rw [List.length_map, rowL_length, List.length_map]; exact hL
  have hXl2 : X.length = (rowL (O.map E3.ent)).length := by rw [hX]; unfold namesOf; rw [List.length_map]
  clear hz hid hzo h hI hco hX
  go_enter Tryz.func16, Tryz.ntmps16
  go_wp2_with (go_at_call 10; refine HCO.out.mono ?_; rintro e w1 ⟨vX, rfl, hoX, hb1⟩; obtain ⟨pX, cX, rfl⟩ := hoX.form)
  have hz1 := hb1.size
  have HO1 := Lib.hid hoX.srcOf
  have HB1 := Lib.hid hb1
  clear hb1 hoX
  go_loopw [3, 11] (fun v i wr => ∃ (n : Nat) (R : List E3) (BR : Nat → Prop), n ≤ X.length ∧ i = .int .i64 n ∧ R.length ≤ n ∧ Hid (R.length = n) ∧ Hid (R.map E3.ent = (rowL (O.map E3.ent)).take n) ∧ Hid (RowOut w1 wr v R BR)) (fun _ i _ => X.length - (intOf i).toNat)
  case atStart => exact ⟨0, [], _, by omega, rfl, by simp, Lib.hid rfl, Lib.hid rfl, Lib.hid (RowOut.nil w1)⟩
  case round =>
    obtain ⟨n, R, BR, hn1, rfl, hRl, HRL, HRE, HRO⟩ := hrel
    have hzr := HRO.out.below.size
    by_cases hlt : n < X.length
    · obtain ⟨pv, cv, hpv⟩ := HRO.out.own.form
      subst hpv
      have HSX := Lib.hid (HO1.out.below HRO.out.below (Nat.le_refl _))
      have HDr := Lib.hid (HD.out.under (HB1.out.trans (HRO.out.below.mono hz1)))
      obtain ⟨xx, gxx, oxx, hx1, hx2, hx3, hxp, hx4⟩ := pred_at HSX.out.at_ HX32.out hlt
      have hxpx := hxp
      clear hxp
      have hglx := bcs_at_lt hx4 hx3
      have HLx := Lib.hid hx3
      have HMx := Lib.hid (List.mem_of_getElem? hx1)
      have HEx := Lib.hid hx1
      have HTx := Lib.hid hx2
      have HZx := Lib.hid (show (fillB [] 32).size = (bcs xx).toArray.size by rw [show (bcs xx).toArray.size = (bcs xx).length from rfl, bcs_length, hx3]; rfl)
      have HCx := Lib.hid (show cellsAt wr gxx (oxx + n * 32) (bcs xx) from hx4)
      have HHx := Lib.hid (HXH.out xx HMx.out)
      clear hx1 hx2 hx3 hx4 hglx
      have HPXx := Lib.hid hxpx
      subst hxpx
      go_upto_region 5 with (first
        | (refine wpList_loadAgg _ rfl 31 _ rfl _ Tryz.underlying31 rfl gxx (oxx + n * 32) (by rfl) (bcs xx) (by rw [HI.out, bcs_length, HLx.out]) HCx.out ?_)
        | (refine wpList_allocZ _ rfl 31 rfl _ HZ.out ?_)
        | (refine wpList_storeNew _ wr rfl 31 _ _ rfl (fillB [] 32) rfl (by rfl) (bcs xx).toArray (by rfl) (by rw [HI.out, List.size_toArray, bcs_length, HLx.out]) HZx.out (by simpa using bcs_one xx) ?_))
      obtain ⟨w6x, hw6x⟩ : ∃ w6, w6 = wr.alloc (.cells (bcs xx).toArray 31) := ⟨_, rfl⟩
      rw [← hw6x]
      obtain ⟨kx, hkx⟩ : ∃ k, k = wr.heap.size := ⟨_, rfl⟩
      rw [← hkx]
      have hb6x : Below wr.heap.size wr w6x := by rw [hw6x]; exact (Below.refl _ wr).alloc (Nat.le_refl _) _
      have HKKx := Lib.hid (show cellsAt w6x kx 0 (bcs xx) by rw [hw6x, hkx]; simpa using cellsAt_new wr (bcs xx).toArray 31)
      have hz6x : kx < w6x.heap.size := by rw [hw6x, hkx]; simp
      have hkrx : wr.heap.size ≤ kx := by omega
      have HB6x := Lib.hid hb6x
      have HGx := Lib.hid (get_hit (HDr.out.under hb6x) HIN.out HLx.out HHx.out)
      have hz6rx := hb6x.size
      clear hw6x hkx hb6x
      go_upto_region 6 with (first
        | (refine wpList_loadAgg _ rfl 31 _ rfl _ Tryz.underlying31 rfl kx 0 (by rfl) (bcs xx) (by rw [HI.out, bcs_length, HLx.out]) HKKx.out ?_)
        | (go_at_call 38; refine HGx.out.mono ?_; rintro e w7x ⟨ox, px, cx, hthx, rfl, hownx, hb7x⟩)
        | (refine wpList_allocZ _ rfl 46 rfl _ HZO.out ?_)
        | (refine wpList_storeNew _ w7x rfl 46 _ _ rfl (zeroOp.cs none 0).toArray rfl (by rfl) (ox.cs px cx).toArray (by rfl) (by rw [opInfo, List.size_toArray, OpV.cs_length hthx.ok]) (show 38 = (ox.cs px cx).toArray.size by rw [List.size_toArray, OpV.cs_length hthx.ok]) (by simpa using OpV.cs_one ox px cx) ?_))
      have HTHx := Lib.hid hthx
      obtain ⟨w8x, hw8x⟩ : ∃ w8, w8 = w7x.alloc (.cells (ox.cs px cx).toArray 46) := ⟨_, rfl⟩
      rw [← hw8x]
      obtain ⟨qx, hqx⟩ : ∃ k, k = w7x.heap.size := ⟨_, rfl⟩
      rw [← hqx]
      have hb8x : Below w7x.heap.size w7x w8x := by rw [hw8x]; exact (Below.refl _ _).alloc (Nat.le_refl _) _
      have hz7x := hb7x.size
      have HRx := Lib.hid (show w8x.heap[qx]? = some (.cells (ox.cs px cx).toArray 46 (0, 0)) by rw [hw8x, hqx]; exact (MapKept.heap_alloc _ _).1)
      have HQx := Lib.hid (show cellsAt w8x qx 0 (ox.cs px cx) by rw [hw8x, hqx]; simpa using cellsAt_new w7x (ox.cs px cx).toArray 46)
      have hz8x : qx < w8x.heap.size := by rw [hw8x, hqx]; simp
      have hq7x : w7x.heap.size ≤ qx := by omega
      have hbbx : Below w6x.heap.size w6x w8x := hb7x.trans (hb8x.mono hz7x)
      have hz68x := hbbx.size
      have HB68x := Lib.hid hbbx
      have HBXx := Lib.hid (HB6x.out.trans (hbbx.mono HB6x.out.size))
      have HKx := Lib.hid (show cellsAt w8x kx 0 (bcs xx) from HKKx.out.of_block (hbbx.block _ hz6x))
      have HOWx := Lib.hid (hownx.under hb8x)
      have hoglx : ∀ g, (Value.slice px ox.preds.length cx).ownBlock = some g → w6x.heap.size ≤ g ∧ g < qx := fun g hg => ⟨(hownx.lt hg).1, Nat.lt_of_lt_of_le (hownx.lt hg).2 hq7x⟩
      have HOGx := Lib.hid hoglx
      clear hw8x hqx hb8x hbbx hb7x hownx hthx hoglx
      have HRO8 := Lib.hid (HRO.out.under HBXx.out)
      have hz8 := HBXx.out.size
      have H38 := Lib.hid (OpV.cs_length HTHx.out.ok px cx)
      have HON := Lib.hid (OpV.cs_one ox px cx)
      have HE := Lib.hid (show (⟨xx, ox, px, cx⟩ : E3).Ok w8x (fun i => (Value.slice px ox.preds.length cx).ownBlock = some i) from ⟨HTHx.out.ok, HLx.out, HOWx.out.srcOf, fun i off e _ => by
        have e' : px = some ⟨i, off, none⟩ := e
        have h0 := (HOWx.out.at e').2.2.1
        subst h0
        rw [e']
        rfl⟩)
      have HSS := Lib.hid (show ∀ i, (Value.slice px ox.preds.length cx).ownBlock = some i → w1.heap.size ≤ i ∧ i < w8x.heap.size ∧ (Value.slice pv R.length cv).ownBlock ≠ some i from fun i hi => by
        have h1 := HOGx.out i hi
        refine ⟨by omega, by omega, fun h2 => ?_⟩
        have := (HRO.out.own.lt h2).2
        omega)
      have HRE2 := Lib.hid (show (R ++ [(⟨xx, ox, px, cx⟩ : E3)]).map E3.ent = (rowL (O.map E3.ent)).take (n + 1) by
        rw [List.map_append, HRE.out, rowL_at HIN.out.nd1 (x := xx) (o := ox) (by rw [← HXX.out]; exact HEx.out) HTHx.out.at_]
        rfl)
      go_wp2_with (first
        | (refine wpList_loadAgg _ rfl 46 _ rfl _ Tryz.underlying46 rfl qx 0 (by rfl) (ox.cs px cx) (by rw [opInfo, H38.out]) HQx.out ?_)
        | (refine wpList_buildOne _ rfl 35 _ rfl 46 38 _ Tryz.underlying35 opInfo (by omega) (by omega) HZO.out (ox.cs px cx).toArray (by rfl) (by rw [List.size_toArray, H38.out]) ?_)
        | (at_builtin; refine wpList_append_G rfl _ _ 35 rfl w1.heap.size 46 io _ 38 112 Tryz.underlying35 hio hoz0 hoz1 hoz2 (by rfl) (by omega) (.slice pv R.length cv) R.length (ocs R) (by rfl) (HRO8.out.own.alloc _) (some ⟨w8x.heap.size, 0, none⟩) 1 1 (ox.cs px cx) (by rfl) (by rw [H38.out]) (src_new w8x (ox.cs px cx) 46) (fun a e => by cases e; rfl) HON.out (by unfold maxLen; omega) (by omega) (by rw [World.size_alloc]; omega) ?_; intro v9 w9 hown9 hg9 hs9))
      have HF := Lib.hid (HRO8.out.push (e := ⟨xx, ox, px, cx⟩) HE.out HSS.out hown9 hg9 hs9)
      clear hown9 hg9 hs9
      go_roundw
      case rel => exact ⟨n + 1, _, _, by omega, by go_num, by simp; omega, Lib.hid (by simp [HRL.out]), HRE2, HF⟩
      case measure => simp [intOf] <;> omega
    · obtain rfl : n = X.length := by omega
      go_wp2
      go_ret
      refine ⟨_, R, BR, rfl, ?_, HRO.out.from HB1.out⟩
      rw [HRE.out, hXl2, List.take_length]
end Go.Proofs.YtfoifdhcelcgiaaGreatDoor
