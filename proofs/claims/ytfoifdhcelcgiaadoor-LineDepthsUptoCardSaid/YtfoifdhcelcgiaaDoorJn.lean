/-
  Names held against names; a set and the document's set, side by side; a nil set.
-/
import Derived.Test.YtfoifdhcelcgiaaDoorJl
/- tribunalref09.Ids: two lists of names are the same. -/
namespace Go.Proofs.YtfoifdhcelcgiaaDoor
open Go Go.RowKit

set_option maxRecDepth 100000 in
set_option maxHeartbeats 4000000 in
theorem ids_any (X Y : List Nm) (p q : Option Addr) (c d : Nat) (w : World) (hX : ∀ x ∈ X, x.length = 32) (hY : ∀ x ∈ Y, x.length = 32) (hs : Src w p (pcs X)) (ht : Src w q (pcs Y)) (hXl : X.length ≤ 1000000000) (_ : Y.length ≤ 1000000000) :
    Calls Tryd.prog 20 #[.slice p X.length c, .slice q Y.length d] w fun e w' => e = .returned (.bool (decide (X = Y))) ∧ Below w.heap.size w w' := by
  obtain ⟨hz, hid⟩ := info_two idInfo
  have HI := Lib.hid hid
  have HX := Lib.hid hX
  have HY := Lib.hid hY
  have HS := Lib.hid hs
  have HT := Lib.hid ht
  clear hz hid hX hY hs ht
  go_enter Tryd.func20, Tryd.ntmps20
  by_cases e4 : X.length = Y.length
  · have q4 : ((X.length : Int) != (Y.length : Int)) = false := by simp [e4]
    have E4 := Lib.hid e4
    clear e4
    go_wp2_with fail
    clear q4
    go_loopw [13] (fun i wr => ∃ n : Nat, n ≤ X.length ∧ i = .int .i64 n ∧ Hid (∀ j, j < n → X[j]? = Y[j]?) ∧ Hid (Below w.heap.size w wr)) (fun i _ => X.length - (intOf i).toNat)
    case atStart => exact ⟨0, by omega, rfl, Lib.hid (fun j h => absurd h (by omega)), Lib.hid (Below.refl _ _)⟩
    case round =>
      obtain ⟨n, hn2, rfl, hso, hbr⟩ := hrel
      have hszr := hbr.out.size
      by_cases hlt2 : n < X.length
      · have hlt3 : n < Y.length := by have := E4.out; omega
        obtain ⟨x, g0, off, hx1, _, hx3, hp0, hx4⟩ := pred_at (HS.out.below hbr.out (Nat.le_refl _)).at_ HX.out hlt2
        obtain ⟨y, g1, off1, hy1, _, hy3, hp1, hy4⟩ := pred_at (HT.out.below hbr.out (Nat.le_refl _)).at_ HY.out hlt3
        subst hp0 hp1
        have HX1 := Lib.hid hx1
        have HY1 := Lib.hid hy1
        have HX3 := Lib.hid hx3
        have HY3 := Lib.hid hy3
        have HX4 := Lib.hid hx4
        have HY4 := Lib.hid hy4
        clear hx1 hy1 hx3 hy3 hx4 hy4
        go_upto_region 6 with fail
        refine wp_region_noPanic ?_
        refine wp_region_till 8 (fun w' => cellsAt w' g0 (off + n * 32) (bcs x) ∧ cellsAt w' g1 (off1 + n * 32) (bcs y)) (by kernel_rfl) (by kernel_rfl) ?_
        obtain ⟨wA, hwA⟩ : ∃ wA, wA = wr.drew := ⟨_, rfl⟩
        have HSS := Lib.hid (show cellsAt wA g0 (off + n * 32) (bcs x) ∧ cellsAt wA g1 (off1 + n * 32) (bcs y) by rw [hwA]; exact ⟨HX4.out, HY4.out⟩)
        have HBA := Lib.hid (show Below w.heap.size w wA by rw [hwA]; exact hbr.out.drew)
        rw [← hwA]
        clear hwA
        go_simp
        refine Till.pure 0 rfl rfl (by kernel_rfl) (NoPanic.noFrame _) HSS.out ?_
        go_big_quiet_step (fail)
        refine wpQuiet_nil ?_
        refine Till.pure 1 rfl rfl (by kernel_rfl) (NoPanic.noFrame _) HSS.out ?_
        go_big_quiet_step (fail)
        refine wpQuiet_nil ?_
        refine Till.pure 2 rfl rfl (by kernel_rfl) (NoPanic.noFrame _) HSS.out ?_
        go_big_quiet_step (fail)
        refine wpQuiet_nil ?_
        refine Till.load 3 34 _ ⟨g0, off + n * 32, none⟩ (idv x) rfl rfl rfl rfl (by kernel_rfl) (NoPanic.noFrame _) HSS.out (fun w' hw' => run_loadAgg Tryd.underlying34 rfl (by rw [HI.out, bcs_length, HX3.out]) hw'.1) ?_
        go_simp
        refine Till.pure 4 rfl rfl (by kernel_rfl) (NoPanic.noFrame _) HSS.out ?_
        go_big_quiet_step (fail)
        refine wpQuiet_nil ?_
        refine Till.pure 5 rfl rfl (by kernel_rfl) (NoPanic.noFrame _) HSS.out ?_
        go_big_quiet_step (fail)
        refine wpQuiet_nil ?_
        refine Till.pure 6 rfl rfl (by kernel_rfl) (NoPanic.noFrame _) HSS.out ?_
        go_big_quiet_step (fail)
        refine wpQuiet_nil ?_
        refine Till.load 7 34 _ ⟨g1, off1 + n * 32, none⟩ (idv y) rfl rfl rfl rfl (by kernel_rfl) (NoPanic.noFrame _) HSS.out (fun w' hw' => run_loadAgg Tryd.underlying34 rfl (by rw [HI.out, bcs_length, HY3.out]) hw'.2) ?_
        go_simp
        refine Till.tail _ rfl rfl (by kernel_rfl) (by kernel_rfl) ?_
        refine wpList_neId rfl _ _ _ rfl x y (by rfl) (by rfl) HX3.out HY3.out ?_
        by_cases hxy : x = y
        · have HXY := Lib.hid hxy
          have dxy : decide (x = y) = true := decide_eq_true hxy
          clear hxy
          go_wp2
          refine NoPanic.normal ?_
          go_wp2
          go_roundw
          case rel =>
            refine ⟨n + 1, by omega, by go_num, Lib.hid ?_, HBA⟩
            intro j hj
            rcases Nat.lt_or_eq_of_le (Nat.le_of_lt_succ hj) with h1 | h1
            · exact hso.out j h1
            · subst h1
              rw [HX1.out, HY1.out, HXY.out]
          case measure => simp [intOf] <;> omega
        · have HXY := Lib.hid hxy
          have dxy : decide (x = y) = false := decide_eq_false hxy
          clear hxy
          go_wp2
          refine NoPanic.normal ?_
          go_wp2
          go_ret
          refine ⟨?_, HBA.out⟩
          rw [decide_eq_false (fun e : X = Y => HXY.out (by
            have h1 := HX1.out
            rw [e, HY1.out] at h1
            exact (Option.some.inj h1).symm))]
          rfl
      · obtain rfl : n = X.length := by omega
        go_wp2
        go_ret
        refine ⟨?_, hbr.out⟩
        rw [decide_eq_true (preds_eq_of E4.out hso.out)]
        rfl
  · have q4 : ((X.length : Int) != (Y.length : Int)) = true := by simp; omega
    go_wp2_with fail
    go_ret
    exact ⟨by rw [decide_eq_false (fun e => e4 (congrArg List.length e))]; rfl, Below.refl _ _⟩
end Go.Proofs.YtfoifdhcelcgiaaDoor

/- tribunallaw10.same: a set and the document's, of the same operations, are the same. -/
namespace Go.Proofs.YtfoifdhcelcgiaaDoor
open Go Go.RowKit

theorem ids_self (X : List Nm) (p q : Option Addr) (c d : Nat) (w : World) (hX : ∀ x ∈ X, x.length = 32) (hs : Src w p (pcs X)) (ht : Src w q (pcs X)) (hXl : X.length ≤ 1000000000) :
    Calls Tryd.prog 20 #[.slice p X.length c, .slice q X.length d] w fun e w' => e = .returned (.bool true) ∧ Below w.heap.size w w' := by
  have h := ids_any X X p q c d w hX hX hs ht hXl hXl
  rw [decide_eq_true rfl] at h
  exact h
theorem same_self (o : OpV) (ho : o.Ok) (p q : Option Addr) (c d : Nat) (w : World) (hs : Src w p (pcs o.preds)) (ht : Src w q (pcs o.preds)) :
    Calls Tryd.prog 17 #[.agg (o.cs p c).toArray, .agg (o.cs q d).toArray] w fun e w' => e = .returned (.bool true) ∧ Below w.heap.size w w' := by
  have h := same_any o o ho ho p q c d w hs ht
  rw [decide_eq_true rfl] at h
  exact h
/-- where one of a name lies in the document's set -/
theorem there_ref {O O2 : List E3} (e1 : O2.map E3.ent = O.map E3.ent) (hn : (namesOf (O.map E3.ent)).Nodup) {x : Nm} {o : OpV} (h : There O x o) : ∃ (k : Nat) (e : E3), atI (O2.map (·.n)) x = (k : Int) ∧ k < O2.length ∧ O2[k]? = some e ∧ e.o = o := by
  have hmem : x ∈ O2.map (·.n) := by
    rw [names_ent, e1]
    exact List.mem_map.2 ⟨_, opAt_some h.at_, rfl⟩
  obtain ⟨k, h1, h2, h3, _⟩ := atI_get hmem
  rw [List.length_map] at h2
  rw [List.getElem?_map, List.getElem?_eq_getElem h2] at h3
  refine ⟨k, O2[k], h1, h2, List.getElem?_eq_getElem h2, ?_⟩
  have h4 : (x, (O2[k]).o) ∈ O.map E3.ent := by
    rw [← e1]
    exact List.mem_map.2 ⟨O2[k], List.getElem_mem h2, by rw [← Option.some.inj h3]; rfl⟩
  have h5 := opAt_mem hn h4
  rw [h.at_] at h5
  exact (Option.some.inj h5).symm

set_option maxRecDepth 100000 in
set_option maxHeartbeats 16000000 in
theorem dsame_any (b mo mw mt b2 : Nat) (B F B2 : Nat → Prop) (O W O2 W2 : List E3) (T : List (Nm × Nat)) (vo vw vn vm : Value) (w : World) (hd : DagSet w b mo mw mt B O W T) (hI : DInv ⟨O.map E3.ent, W.map E3.ent⟩) (hr : RefSet w b2 vo vw vn vm F B2 O2 W2)
    (e1 : O2.map E3.ent = O.map E3.ent) (e2 : W2.map E3.ent = W.map E3.ent) (hOl : O.length ≤ 1000) (hWl : W.length ≤ 1000) :
    Calls Tryd.prog 19 #[.pointer (some ⟨b, 0, none⟩), .pointer (some ⟨b2, 0, none⟩)] w fun e w' => e = .returned (.bool true) ∧ Below w.heap.size w w' := by
  obtain ⟨hz, hid⟩ := info_two idInfo
  obtain ⟨hzo, _⟩ := info_two opZero
  have HZ := Lib.hid hz
  have HI := Lib.hid hid
  have HZO := Lib.hid hzo
  have hO2l : O2.length ≤ 1000 := by have := congrArg List.length e1; simp at this; omega
  have hW2l : W2.length ≤ 1000 := by have := congrArg List.length e2; simp at this; omega
  obtain ⟨X, hX⟩ : ∃ X, X = nsort (O.map (·.n)) := ⟨_, rfl⟩
  obtain ⟨Z, hZ⟩ : ∃ Z, Z = headsL ⟨O.map E3.ent, W.map E3.ent⟩ := ⟨_, rfl⟩
  obtain ⟨Y, hY⟩ : ∃ Y, Y = nsort (W.map (·.n)) := ⟨_, rfl⟩
  have hX2 : nsort (O2.map (·.n)) = X := by rw [hX, names_ent, names_ent, e1]
  have hY2 : nsort (W2.map (·.n)) = Y := by rw [hY, names_ent, names_ent, e2]
  have hZ2 : headsL ⟨O2.map E3.ent, W2.map E3.ent⟩ = Z := by rw [hZ, e1, e2]
  have HX32 := Lib.hid (show ∀ x ∈ X, x.length = 32 from fun x hx => by
    rw [hX] at hx
    obtain ⟨e, he, rfl⟩ := List.mem_map.1 (nsort_mem.1 hx)
    exact (hd.okO e he).len)
  have HXH := Lib.hid (show ∀ x ∈ X, hasN (O.map E3.ent) x = true from fun x hx => by
    rw [hX] at hx
    exact (hasN_mem O x).2 (nsort_mem.1 hx))
  have HY32 := Lib.hid (show ∀ x ∈ Y, x.length = 32 from fun x hx => by
    rw [hY] at hx
    obtain ⟨e, he, rfl⟩ := List.mem_map.1 (nsort_mem.1 hx)
    exact (hd.okW e he).len)
  have HZ32 := Lib.hid (show ∀ x ∈ Z, x.length = 32 from fun x hx => by
    rw [hZ] at hx
    have := headsL_len _ x hx
    rw [← names_ent] at this
    obtain ⟨e, he, rfl⟩ := List.mem_map.1 this
    exact (hd.okO e he).len)
  have hXl : X.length ≤ 1000 := by rw [hX, (nsort_perm _).length_eq]; simpa using hOl
  have hYl : Y.length ≤ 1000 := by rw [hY, (nsort_perm _).length_eq]; simpa using hWl
  have hZl : Z.length ≤ 1000 := by have := headsL_le ⟨O.map E3.ent, W.map E3.ent⟩; rw [← hZ] at this; simp at this; omega
  have HN1 := Lib.hid (show ∀ wz, Below w.heap.size w wz → Calls Tryd.prog 11 #[.pointer (some ⟨b, 0, none⟩)] wz fun e w' => ∃ v, e = .returned v ∧ Owns w' wz.heap.size 34 32 v X.length (pcs X) ∧ Below wz.heap.size wz w' from fun wz hb => by
    rw [hX]; exact dnames_any b mo mw mt B O W T wz (hd.under hb) (by omega))
  have HN2 := Lib.hid (show ∀ wz, Below w.heap.size w wz → Calls Tryd.prog 47 #[.pointer (some ⟨b2, 0, none⟩)] wz fun e w' => ∃ v, e = .returned v ∧ Owns w' wz.heap.size 34 32 v X.length (pcs X) ∧ Below wz.heap.size wz w' from fun wz hb => by
    rw [← hX2]; exact rnames_any b2 vo vw vn vm F B2 O2 W2 wz (hr.under hb) (by omega))
  have HH1 := Lib.hid (show ∀ wz, Below w.heap.size w wz → Calls Tryd.prog 18 #[.pointer (some ⟨b, 0, none⟩)] wz fun e w' => ∃ v, e = .returned v ∧ Owns w' wz.heap.size 34 32 v Z.length (pcs Z) ∧ Below wz.heap.size wz w' from fun wz hb => by
    rw [hZ]; exact heads_any b mo mw mt B O W T wz (hd.under hb) (by omega))
  have HH2 := Lib.hid (show ∀ wz, Below w.heap.size w wz → Calls Tryd.prog 48 #[.pointer (some ⟨b2, 0, none⟩)] wz fun e w' => ∃ v, e = .returned v ∧ Owns w' wz.heap.size 34 32 v Z.length (pcs Z) ∧ Below wz.heap.size wz w' from fun wz hb => by
    rw [← hZ2]; exact rheads_any b2 vo vw vn vm F B2 O2 W2 wz (hr.under hb) (by omega))
  have HW1 := Lib.hid (show ∀ wz, Below w.heap.size w wz → Calls Tryd.prog 15 #[.pointer (some ⟨b, 0, none⟩)] wz fun e w' => ∃ v, e = .returned v ∧ Owns w' wz.heap.size 34 32 v Y.length (pcs Y) ∧ Below wz.heap.size wz w' from fun wz hb => by
    rw [hY]; exact dwaits_any b mo mw mt B O W T wz (hd.under hb) (by omega))
  have HW2 := Lib.hid (show ∀ wz, Below w.heap.size w wz → Calls Tryd.prog 49 #[.pointer (some ⟨b2, 0, none⟩)] wz fun e w' => ∃ v, e = .returned v ∧ Owns w' wz.heap.size 34 32 v Y.length (pcs Y) ∧ Below wz.heap.size wz w' from fun wz hb => by
    rw [← hY2]; exact rwaits_any b2 vo vw vn vm F B2 O2 W2 wz (hr.under hb) (by omega))
  have HD5 := Lib.hid hd
  have HR5 := Lib.hid hr
  have HIN := Lib.hid hI
  have HE1 := Lib.hid e1
  clear hd hr hI e1 e2 hX hZ hY hX2 hZ2 hY2 hz hid hzo
  go_enter Tryd.func19, Tryd.ntmps19
  go_wp2_with (first
    | (go_at_call 11; refine (HN1.out w (Below.refl _ w)).mono ?_; rintro e wa ⟨va, rfl, hoa, Ba⟩; obtain ⟨pa, ca, rfl⟩ := hoa.form)
    | (go_at_call 47; refine (HN2.out wa Ba).mono ?_; rintro e wb ⟨vb, rfl, hob, hbb⟩; obtain ⟨pb, cb, rfl⟩ := hob.form; have Bb := Ba.trans (hbb.mono Ba.size))
    | (go_at_call 20; refine (ids_self X pa pb ca cb wb HX32.out (hoa.srcOf.below hbb (Nat.le_refl _)) hob.srcOf (by omega)).mono ?_; rintro e wc ⟨rfl, hbc⟩; have Bc := Bb.trans (hbc.mono Bb.size)))
  refine (HH1.out wc Bc).mono ?_
  rintro e wd ⟨vd, rfl, hod, hbd⟩
  obtain ⟨pd, cd, rfl⟩ := hod.form
  have Bd := Bc.trans (hbd.mono Bc.size)
  go_wp2_with (first
    | (go_at_call 48; refine (HH2.out wd Bd).mono ?_; rintro e we ⟨ve, rfl, hoe, hbe⟩; obtain ⟨pe, ce, rfl⟩ := hoe.form; have Be := Bd.trans (hbe.mono Bd.size))
    | (go_at_call 20; refine (ids_self Z pd pe cd ce we HZ32.out (hod.srcOf.below hbe (Nat.le_refl _)) hoe.srcOf (by omega)).mono ?_; rintro e wf ⟨rfl, hbf⟩; have Bf := Be.trans (hbf.mono Be.size)))
  refine (HW1.out wf Bf).mono ?_
  rintro e wg ⟨vg, rfl, hog, hbg⟩
  obtain ⟨pg, cg, rfl⟩ := hog.form
  have Bg := Bf.trans (hbg.mono Bf.size)
  go_upto_region 3 with (first
    | (go_at_call 49; refine (HW2.out wg Bg).mono ?_; rintro e wh ⟨vh, rfl, hoh, hbh⟩; obtain ⟨ph, ch, rfl⟩ := hoh.form; have Bh := Bg.trans (hbh.mono Bg.size))
    | (go_at_call 20; refine (ids_self Y pg ph cg ch wh HY32.out (hog.srcOf.below hbh (Nat.le_refl _)) hoh.srcOf (by omega)).mono ?_; rintro e wi ⟨rfl, hbi⟩; have Bi := Bh.trans (hbi.mono Bh.size)))
  have HBI := Lib.hid Bi
  clear Ba Bb Bc Bd Be Bf Bg Bh Bi hoa hob hod hoe hog hoh hbb hbc hbd hbe hbf hbg hbh hbi
  go_wp2_with (go_at_call 47; refine (HN2.out wi HBI.out).mono ?_; rintro e wj ⟨vj, rfl, hoj, hbj⟩; obtain ⟨pj, cj, rfl⟩ := hoj.form)
  have hzi := HBI.out.size
  have hzj := hbj.size
  have HSX := Lib.hid hoj.srcOf
  have HBJ := Lib.hid (HBI.out.trans (hbj.mono hzi))
  have HDJ := Lib.hid (HD5.out.under HBJ.out)
  have HRJ := Lib.hid (HR5.out.under HBJ.out)
  clear hoj hbj
  go_loopw [34] (fun i wr => ∃ n2 : Nat, n2 ≤ X.length ∧ i = .int .i64 n2 ∧ Hid (Below wj.heap.size wj wr)) (fun i _ => X.length - (intOf i).toNat)
  case atStart => exact ⟨0, by omega, rfl, Lib.hid (Below.refl _ _)⟩
  case round =>
    obtain ⟨n2, hn2, rfl, hbr⟩ := hrel
    have hzr2 := hbr.out.size
    by_cases hlt2 : n2 < X.length
    · obtain ⟨x, gx, ox, hx1, hx2, hx3, hxp, hx4⟩ := pred_at HSX.out.at_ HX32.out hlt2
      subst hxp
      have hglx := bcs_at_lt hx4 hx3
      have HLx := Lib.hid hx3
      have HMx := Lib.hid (List.mem_of_getElem? hx1)
      have HZx := Lib.hid (show (fillB [] 32).size = (bcs x).toArray.size by rw [show (bcs x).toArray.size = (bcs x).length from rfl, bcs_length, hx3]; rfl)
      have HCx := Lib.hid (show cellsAt wr gx (ox + n2 * 32) (bcs x) from hx4.of_block (hbr.out.block _ hglx))
      have HHx := Lib.hid (HXH.out x HMx.out)
      clear hx1 hx2 hx3 hx4
      go_upto_region 6 with (first
        | (refine wpList_loadAgg _ rfl 34 _ rfl _ Tryd.underlying34 rfl gx (ox + n2 * 32) (by rfl) (bcs x) (by rw [HI.out, bcs_length, HLx.out]) HCx.out ?_)
        | (refine wpList_allocZ _ rfl 34 rfl _ HZ.out ?_)
        | (refine wpList_storeNew _ wr rfl 34 _ _ rfl (fillB [] 32) rfl (by rfl) (bcs x).toArray (by rfl) (by rw [HI.out, List.size_toArray, bcs_length, HLx.out]) HZx.out (by simpa using bcs_one x) ?_))
      obtain ⟨w6x, hw6x⟩ : ∃ w6, w6 = wr.alloc (.cells (bcs x).toArray 34) := ⟨_, rfl⟩
      rw [← hw6x]
      obtain ⟨kx, hkx⟩ : ∃ k, k = wr.heap.size := ⟨_, rfl⟩
      rw [← hkx]
      have hb6x : Below wr.heap.size wr w6x := by rw [hw6x]; exact (Below.refl _ wr).alloc (Nat.le_refl _) _
      have HKx := Lib.hid (show cellsAt w6x kx 0 (bcs x) by rw [hw6x, hkx]; simpa using cellsAt_new wr (bcs x).toArray 34)
      have hz6x : kx < w6x.heap.size := by rw [hw6x, hkx]; simp
      have hkrx : wr.heap.size ≤ kx := by omega
      have HBWx := Lib.hid (hbr.out.trans (hb6x.mono hbr.out.size))
      have HGx := Lib.hid (get_hit (HDJ.out.under HBWx.out) HIN.out HLx.out HHx.out)
      have hz6rx := hb6x.size
      clear hw6x hkx hb6x
      go_upto_region 7 with (first
        | (refine wpList_loadAgg _ rfl 34 _ rfl _ Tryd.underlying34 rfl kx 0 (by rfl) (bcs x) (by rw [HI.out, bcs_length, HLx.out]) HKx.out ?_)
        | (go_at_call 12; refine HGx.out.mono ?_; rintro e w7x ⟨oOp, px, cx, hthx, rfl, hownx, hb7x⟩)
        | (refine wpList_allocZ _ rfl 38 rfl _ HZO.out ?_)
        | (refine wpList_storeNew _ w7x rfl 38 _ _ rfl (zeroOp.cs none 0).toArray rfl (by rfl) (oOp.cs px cx).toArray (by rfl) (by rw [opInfo, List.size_toArray, OpV.cs_length hthx.ok]) (show 38 = (oOp.cs px cx).toArray.size by rw [List.size_toArray, OpV.cs_length hthx.ok]) (by simpa using OpV.cs_one oOp px cx) ?_))
      have HTHx := Lib.hid hthx
      obtain ⟨w8x, hw8x⟩ : ∃ w8, w8 = w7x.alloc (.cells (oOp.cs px cx).toArray 38) := ⟨_, rfl⟩
      rw [← hw8x]
      obtain ⟨qx, hqx⟩ : ∃ k, k = w7x.heap.size := ⟨_, rfl⟩
      rw [← hqx]
      have hb8x : Below w7x.heap.size w7x w8x := by rw [hw8x]; exact (Below.refl _ _).alloc (Nat.le_refl _) _
      have hz7x := hb7x.size
      have HQx := Lib.hid (show cellsAt w8x qx 0 (oOp.cs px cx) by rw [hw8x, hqx]; simpa using cellsAt_new w7x (oOp.cs px cx).toArray 38)
      have hz8x : qx < w8x.heap.size := by rw [hw8x, hqx]; simp
      have hbbx : Below w6x.heap.size w6x w8x := hb7x.trans (hb8x.mono hz7x)
      have hz68x := hbbx.size
      have HBXx := Lib.hid (HBWx.out.trans (hbbx.mono HBWx.out.size))
      have HKXx := Lib.hid (show cellsAt w8x kx 0 (bcs x) from HKx.out.of_block (hbbx.block _ hz6x))
      have HSPx := Lib.hid ((Owns.srcOf hownx).below hb8x (Nat.le_refl _))
      clear hw8x hqx hb8x hbbx hb7x hownx hthx
      obtain ⟨k, ek, hat, hkl, hek, heo⟩ := there_ref HE1.out (DInv.nd1 HIN.out) HTHx.out
      have HR8 := Lib.hid (HRJ.out.under HBXx.out)
      obtain ⟨po, co, hvo⟩ := HR8.out.ops.form
      subst hvo
      have HOL := Lib.hid (show ∀ e ∈ O2, e.cs.length = 38 from fun e he => OpV.cs_length (HR8.out.okO e he).ok _ _)
      obtain ⟨ey, gy, oy, hy1, _, hy3, hpy, hy4⟩ := op_at HR8.out.ops.srcOf.at_ HOL.out hkl
      have heq : ey = ek := by rw [hek] at hy1; exact (Option.some.inj hy1).symm
      subst hpy
      obtain ⟨yp, hyp⟩ : ∃ y, y = ey.p := ⟨_, rfl⟩
      obtain ⟨yc, hyc⟩ : ∃ y, y = ey.c := ⟨_, rfl⟩
      have hcsy : ey.cs = oOp.cs yp yc := by rw [← heo, ← heq, hyp, hyc]; rfl
      have hgy := cellsAt_lt hy4 (by rw [HOL.out ey hy3]; omega)
      have HCY := Lib.hid (show cellsAt w8x gy (oy + k * 38) (oOp.cs yp yc) by rw [← hcsy]; exact hy4)
      have HSY := Lib.hid (show Src w8x yp (pcs oOp.preds) by rw [hyp, ← heo, ← heq]; exact (HR8.out.okO ey hy3).src)
      have HO38 := Lib.hid (OpV.cs_length HTHx.out.ok px cx)
      have HY38 := Lib.hid (OpV.cs_length HTHx.out.ok yp yc)
      have hca := at_any b2 (.slice (some ⟨gy, oy, none⟩) O2.length co) vw vn vm F B2 O2 W2 x HLx.out
      rw [hat] at hca
      have HCA := Lib.hid hca
      have hb2 := HR8.out.lt
      have hk63 := i64_nat k (by omega)
      have hkl2 : (k : Int) < (O2.length : Int) := by omega
      clear hat hek heo heq hyp hyc hcsy hy1 hy3 hy4 hca
      go_upto_region 7 with fail
      obtain ⟨NV, hNVa, hNVb⟩ : ∃ n, w8x.heap.size ≤ n ∧ n ≤ w8x.heap.size := ⟨_, Nat.le_refl _, Nat.le_refl _⟩
      refine wp_region_noPanic ?_
      refine wp_region_till 15 (fun w' => Below NV w8x w') (by kernel_rfl) (by kernel_rfl) ?_
      obtain ⟨wV, hwV⟩ : ∃ wV, wV = w8x.drew := ⟨_, rfl⟩
      have hSwV : Below NV w8x wV := by rw [hwV]; exact (Below.refl NV w8x).drew
      rw [← hwV]
      have HSV := Lib.hid hSwV
      have hzwV : w8x.heap.size ≤ wV.heap.size := by rw [hwV]; exact Nat.le_refl _
      clear hwV hSwV
      go_simp
      refine Till.pure 0 rfl rfl (by kernel_rfl) (NoPanic.noFrame _) HSV.out ?_
      go_big_quiet_step (fail)
      refine wpQuiet_nil ?_
      refine Till.pure 1 rfl rfl (by kernel_rfl) (NoPanic.noFrame _) HSV.out ?_
      go_big_quiet_step (fail)
      refine wpQuiet_nil ?_
      refine Till.pure 2 rfl rfl (by kernel_rfl) (NoPanic.noFrame _) HSV.out ?_
      go_big_quiet_step (fail)
      refine wpQuiet_nil ?_
      refine Till.load 3 38 _ ⟨qx, 0, none⟩ (.agg (oOp.cs px cx).toArray) rfl rfl rfl rfl (by kernel_rfl) (NoPanic.noFrame _) HSV.out (fun w' hw' => run_loadAgg Tryd.underlying38 rfl (by rw [opInfo, HO38.out]) (HQx.out.of_block (hw'.block _ (by omega)))) ?_
      go_simp
      refine Till.pure 4 rfl rfl (by kernel_rfl) (NoPanic.noFrame _) HSV.out ?_
      go_big_quiet_step (fail)
      refine wpQuiet_nil ?_
      refine Till.pure 5 rfl rfl (by kernel_rfl) (NoPanic.noFrame _) HSV.out ?_
      go_big_quiet_step (fail)
      refine wpQuiet_nil ?_
      refine Till.pure 6 rfl rfl (by kernel_rfl) (NoPanic.noFrame _) HSV.out ?_
      go_big_quiet_step (fail)
      refine wpQuiet_nil ?_
      refine Till.load 7 25 _ ⟨b2, 0, none⟩ (.slice (some ⟨gy, oy, none⟩) O2.length co) rfl rfl rfl rfl (by kernel_rfl) (NoPanic.noFrame _) HSV.out (fun w' hw' => run_loadVar_one Tryd.underlying25 rfl (HR8.out.below hw' hNVa).c0) ?_
      go_simp
      refine Till.pure 8 rfl rfl (by kernel_rfl) (NoPanic.noFrame _) HSV.out ?_
      go_big_quiet_step (fail)
      refine wpQuiet_nil ?_
      refine Till.load 9 34 _ ⟨kx, 0, none⟩ (idv x) rfl rfl rfl rfl (by kernel_rfl) (NoPanic.noFrame _) HSV.out (fun w' hw' => run_loadAgg Tryd.underlying34 rfl (by rw [HI.out, bcs_length, HLx.out]) (HKXx.out.of_block (hw'.block _ (by omega)))) ?_
      go_simp
      refine Till.act 10 rfl rfl (by kernel_rfl) rfl ?_
      intro K hK
      go_wp2_with (go_at_call 23; refine (HCA.out wV (HR8.out.below HSV.out hNVa) (by omega)).mono ?_; rintro e wN ⟨rfl, hbN⟩)
      have hzN := hbN.size
      have hSN := HSV.out.trans (hbN.mono (by omega))
      refine hK _ _ hSN ?_
      clear hK K
      go_simp
      have HSN := Lib.hid hSN
      clear hSN hbN
      refine Till.pure 11 rfl rfl (by kernel_rfl) (NoPanic.noFrame _) HSN.out ?_
      go_big_quiet_step (fail)
      refine wpQuiet_nil ?_
      refine Till.load 12 38 _ ⟨gy, oy + k * 38, none⟩ (.agg (oOp.cs yp yc).toArray) rfl rfl rfl rfl (by kernel_rfl) (NoPanic.noFrame _) HSN.out (fun w' hw' => run_loadAgg Tryd.underlying38 rfl (by rw [opInfo, HY38.out]) (HCY.out.of_block (hw'.block _ (by omega)))) ?_
      go_simp
      refine Till.act 13 rfl rfl (by kernel_rfl) rfl ?_
      intro K hK
      go_wp2_with (go_at_call 17; refine (same_self oOp HTHx.out.ok px yp cx yc wN (HSPx.out.below HSN.out hNVa) (HSY.out.below HSN.out hNVa)).mono ?_; rintro e wU ⟨rfl, hbU⟩)
      have hzU := hbU.size
      have hSU := HSN.out.trans (hbU.mono (by omega))
      refine hK _ _ hSU ?_
      clear hK K
      go_simp
      have HSU := Lib.hid hSU
      clear hSU hbU
      refine Till.pure 14 rfl rfl (by kernel_rfl) (NoPanic.noFrame _) HSU.out ?_
      go_big_quiet_step (fail)
      refine wpQuiet_nil ?_
      refine Till.tail _ rfl rfl (by kernel_rfl) (by kernel_rfl) ?_
      have HFIN := Lib.hid (HBXx.out.trans ((HSU.out.mono hNVa).mono HBXx.out.size))
      go_wp2
      refine NoPanic.normal ?_
      go_wp2
      go_roundw
      case rel => exact ⟨n2 + 1, by omega, by go_num, HFIN⟩
      case measure => simp [intOf] <;> omega
    · obtain rfl : n2 = X.length := by omega
      go_wp2
      go_ret
      exact ⟨rfl, HBJ.out.trans (hbr.out.mono HBJ.out.size)⟩
end Go.Proofs.YtfoifdhcelcgiaaDoor

/- A nil set: what it answers. -/
namespace Go.Proofs.YtfoifdhcelcgiaaDoor
open Go Go.RowKit

set_option maxRecDepth 100000 in
set_option maxHeartbeats 4000000 in
theorem take_nil (o : OpV) (_ : o.Ok) (p : Option Addr) (c : Nat) (w : World) :
    Calls Tryd.prog 10 #[.pointer none, .agg (o.cs p c).toArray] w fun e w' => e = .returned (.tuple #[.slice none 0 0, .int .i64 2]) ∧ Below w.heap.size w w' := by
  go_enter Tryd.func10, Tryd.ntmps10
  go_wp2_with (first | (refine wpList_boxAgg _ rfl 38 _ rfl (o.cs p c).toArray (by rfl) ?_))
  refine bodyPost_ret (results_tmp2 rfl _ _ _) rfl ?_
  exact ⟨rfl, (Below.refl _ w).alloc (Nat.le_refl _) _⟩
set_option maxRecDepth 100000 in
set_option maxHeartbeats 4000000 in
theorem get_nil (x : Nm) (w : World) :
    Calls Tryd.prog 12 #[.pointer none, idv x] w fun e w' => e = .returned (.tuple #[.agg (zeroOp.cs none 0).toArray, .int .i64 2]) ∧ Below w.heap.size w w' := by
  obtain ⟨hzo, hio⟩ := info_two opZero
  have HZO := Lib.hid hzo
  clear hzo hio
  obtain ⟨w1, hw1⟩ : ∃ w1, w1 = (w.alloc (.cells (bcs x).toArray 34)).alloc (.cells (zeroOp.cs none 0).toArray 38) := ⟨_, rfl⟩
  have HB1 := Lib.hid (show Below w.heap.size w w1 by rw [hw1]; exact ((Below.refl _ w).alloc (Nat.le_refl _) _).alloc (by simp) _)
  have HD1 := Lib.hid (show w1.heap[w.heap.size + 1]? = some (.cells (zeroOp.cs none 0).toArray 38 (0, 0)) by rw [hw1]; exact heap_alloc2 _ _ _)
  go_enter Tryd.func12, Tryd.ntmps12
  go_upto_region 1 with (first
    | (refine wpList_boxAgg _ rfl 34 _ rfl (bcs x).toArray (by rfl) ?_)
    | (refine wpList_allocZ _ rfl 38 rfl _ HZO.out ?_))
  rw [show (w.alloc (.cells (bcs x).toArray 34)).alloc (.cells (zeroOp.cs none 0).toArray 38) = w1 from hw1.symm]
  clear hw1
  go_wp2_with (first
    | (refine wpList_buildZ _ rfl 38 rfl _ (build_op _) ?_)
    | (refine wpList_storeRow rfl 38 _ _ rfl HD1.out (by rfl) (zeroOp.cs none 0).toArray (by rfl) (by rw [opInfo]; rfl) (by rfl) (by simpa using OpV.cs_one zeroOp none 0) ?_; intro w7 hw7 hg7 hs7))
  have hcf : cellsAt w7 (w.heap.size + 1) 0 (zeroOp.cs none 0) := fun j u hj => by rw [cell_of_row _ _ _ _ _ _ hw7, Nat.zero_add]; simpa using hj
  have hbf : Below w.heap.size w w7 := HB1.out.grown hg7 HB1.out.size (fun k e => by have := Option.some.inj e; omega)
  exact bodyPost_ret (results_cell_tmp rfl (by rfl) (run_loadAgg Tryd.underlying38 rfl (by rw [opInfo]; rfl) hcf)) rfl ⟨rfl, hbf⟩
set_option maxRecDepth 100000 in
set_option maxHeartbeats 4000000 in
theorem next_nil (a : Int) (d : Dr) (w : World) :
    Calls Tryd.prog 21 #[.pointer none, .int .i64 a, drv d] w fun e w' => e = .returned (.tuple #[.agg (zeroOp.cs none 0).toArray, .int .i64 2]) ∧ Below w.heap.size w w' := by
  obtain ⟨hzo, hio⟩ := info_two opZero
  have HZO := Lib.hid hzo
  clear hzo hio
  obtain ⟨w1, hw1⟩ : ∃ w1, w1 = (w.alloc (.cells d.cs.toArray 36)).alloc (.cells (zeroOp.cs none 0).toArray 38) := ⟨_, rfl⟩
  have HB1 := Lib.hid (show Below w.heap.size w w1 by rw [hw1]; exact ((Below.refl _ w).alloc (Nat.le_refl _) _).alloc (by simp) _)
  have HD1 := Lib.hid (show w1.heap[w.heap.size + 1]? = some (.cells (zeroOp.cs none 0).toArray 38 (0, 0)) by rw [hw1]; exact heap_alloc2 _ _ _)
  go_enter Tryd.func21, Tryd.ntmps21
  go_upto_region 1 with (first
    | (refine wpList_boxAgg _ rfl 36 _ rfl d.cs.toArray (by rfl) ?_)
    | (refine wpList_allocZ _ rfl 38 rfl _ HZO.out ?_))
  rw [show (w.alloc (.cells d.cs.toArray 36)).alloc (.cells (zeroOp.cs none 0).toArray 38) = w1 from hw1.symm]
  clear hw1
  go_wp2_with (first
    | (refine wpList_buildZ _ rfl 38 rfl _ (build_op _) ?_)
    | (refine wpList_storeRow rfl 38 _ _ rfl HD1.out (by rfl) (zeroOp.cs none 0).toArray (by rfl) (by rw [opInfo]; rfl) (by rfl) (by simpa using OpV.cs_one zeroOp none 0) ?_; intro w7 hw7 hg7 hs7))
  have hcf : cellsAt w7 (w.heap.size + 1) 0 (zeroOp.cs none 0) := fun j u hj => by rw [cell_of_row _ _ _ _ _ _ hw7, Nat.zero_add]; simpa using hj
  have hbf : Below w.heap.size w w7 := HB1.out.grown hg7 HB1.out.size (fun k e => by have := Option.some.inj e; omega)
  exact bodyPost_ret (results_cell_tmp rfl (by rfl) (run_loadAgg Tryd.underlying38 rfl (by rw [opInfo]; rfl) hcf)) rfl ⟨rfl, hbf⟩
set_option maxRecDepth 100000 in
set_option maxHeartbeats 4000000 in
theorem heads_nil_any (w : World) : Calls Tryd.prog 18 #[.pointer none] w fun e w' => e = .returned (.slice none 0 0) ∧ Below w.heap.size w w' := by
  go_enter Tryd.func18, Tryd.ntmps18
  go_wp2_with (go_at_call 11; refine (dnames_nil _).mono ?_; rintro e w2 ⟨rfl, rfl⟩)
  go_loopw [3, 9] (fun v i wr => v = .slice none 0 0 ∧ i = .int .i64 0 ∧ wr = w2) (fun _ _ _ => 0)
  case atStart => exact ⟨rfl, rfl, rfl⟩
  case round =>
    obtain ⟨rfl, rfl, rfl⟩ := hrel
    go_wp2
    go_ret
    exact ⟨rfl, Below.refl _ _⟩
set_option maxRecDepth 100000 in
set_option maxHeartbeats 4000000 in
theorem past_nil (x : Nm) (w : World) : Calls Tryd.prog 24 #[.pointer none, idv x] w fun e w' => e = .returned (.slice none 0 0) ∧ Below w.heap.size w w' := by
  go_enter Tryd.func24, Tryd.ntmps24
  go_wp2_with (first | (refine wpList_boxAgg _ rfl 34 _ rfl (bcs x).toArray (by rfl) ?_))
  go_ret
  exact ⟨rfl, (Below.refl _ w).alloc (Nat.le_refl _) _⟩
end Go.Proofs.YtfoifdhcelcgiaaDoor

/- A set and the document's set, side by side. -/
namespace Go.Proofs.YtfoifdhcelcgiaaDoor
open Go Go.RowKit

theorem info33 : (Tryd.prog.info? 33).map (·.size) = some 32 := by kernel_rfl

structure PairSt (w2 wr : World) (b mo mw mt b2 : Nat) (BD F : Nat → Prop) (O W O2 W2 : List E3) (T : List (Nm × Nat)) (vo vw vn vm : Value) : Prop where
  dag : DagSet wr b mo mw mt BD O W T
  ref : RefSet wr b2 vo vw vn vm F (fun i => i < w2.heap.size) O2 W2
  inv : DInv ⟨O.map E3.ent, W.map E3.ent⟩
  e1 : O2.map E3.ent = O.map E3.ent
  e2 : W2.map E3.ent = W.map E3.ent
  bd : ∀ i, BD i → w2.heap.size ≤ i ∧ i < wr.heap.size ∧ ¬ F i
  fn : ∀ i, F i → w2.heap.size ≤ i
  keep : Below w2.heap.size w2 wr
section
variable {w2 wr wx w5 w6 : World} {b mo mw mt b2 : Nat} {BD F BD' F' : Nat → Prop} {O W O2 W2 O' W' O2' W2' : List E3} {T T' : List (Nm × Nat)} {vo vw vn vm vo' vw' vn' vm' : Value}
theorem PairSt.under (h : PairSt w2 wr b mo mw mt b2 BD F O W O2 W2 T vo vw vn vm) (hb : Below wr.heap.size wr wx) : PairSt w2 wx b mo mw mt b2 BD F O W O2 W2 T vo vw vn vm :=
  ⟨h.dag.under hb, h.ref.under hb, h.inv, h.e1, h.e2, fun i hi => ⟨(h.bd i hi).1, Nat.lt_of_lt_of_le (h.bd i hi).2.1 hb.size, (h.bd i hi).2.2⟩, h.fn, h.keep.trans (hb.mono h.keep.size)⟩
theorem PairSt.three (h : PairSt w2 wr b mo mw mt b2 BD F O W O2 W2 T vo vw vn vm) : ∀ i, threeB mo mw mt i → BD i := fun i hi => by
  rcases hi with rfl | rfl | rfl
  · exact h.dag.inB.2.1
  · exact h.dag.inB.2.2.1
  · exact h.dag.inB.2.2.2
theorem PairSt.refAt (h : PairSt w2 wr b mo mw mt b2 BD F O W O2 W2 T vo vw vn vm) (hk : Keeps (threeB mo mw mt) wr w5) : RefSet w5 b2 vo vw vn vm F (fun i => i < w2.heap.size) O2 W2 :=
  h.ref.keeps hk.size (fun i hi hFB => hk.block i hi (fun h3 => by
    have h4 := h.bd i (h.three i h3)
    exact hFB.elim h4.2.2 (fun h5 => by have := h4.1; omega)))
theorem PairSt.take (h : PairSt w2 wr b mo mw mt b2 BD F O W O2 W2 T vo vw vn vm) (hd : DagSet w5 b mo mw mt BD' O' W' T') (hB : ∀ i, BD' i → (BD i ∨ wr.heap.size ≤ i) ∧ i < w5.heap.size) (hk : Keeps (threeB mo mw mt) wr w5)
    (hr : RefSet w6 b2 vo' vw' vn' vm' F' (fun i => i < w2.heap.size) O2' W2') (hF : ∀ i, F' i → F i ∨ w5.heap.size ≤ i) (hk2 : Keeps F w5 w6) (hinv : DInv ⟨O'.map E3.ent, W'.map E3.ent⟩) (e1 : O2'.map E3.ent = O'.map E3.ent) (e2 : W2'.map E3.ent = W'.map E3.ent) :
    PairSt w2 w6 b mo mw mt b2 BD' F' O' W' O2' W2' T' vo' vw' vn' vm' := by
  have hz := h.keep.size
  have hnF : ∀ i, BD' i → ¬ F i := fun i hi hf => (hB i hi).1.elim (fun h1 => (h.bd i h1).2.2 hf) (fun h1 => by have := h.ref.flt i hf; omega)
  refine ⟨hd.keeps hk2.size (fun i hi hb => hk2.block i hi (hnF i hb)), hr, hinv, e1, e2, fun i hi => ⟨?_, Nat.lt_of_lt_of_le (hB i hi).2 hk2.size, fun hf => ?_⟩, fun i hi => ?_, ?_⟩
  · exact (hB i hi).1.elim (fun h1 => (h.bd i h1).1) (fun h1 => by omega)
  · exact (hF i hf).elim (hnF i hi) (fun h1 => by have := (hB i hi).2; omega)
  · exact (hF i hi).elim (h.fn i) (fun h1 => by have := hk.size; omega)
  · exact (h.keep.trans (hk.toBelow hz (fun i hi h3 => by have := (h.bd i (h.three i h3)).1; omega))).trans (hk2.toBelow (Nat.le_trans hz hk.size) (fun i hi hf => by have := h.fn i hf; omega))
end

/-! ### what comes is there -/
theorem putD_names (s : DS) (out : List Nm) (e : NOp) (h : ∀ x ∈ out, x ∈ namesOf s.ops) : ∀ x ∈ (putD s out e).2, x ∈ namesOf (putD s out e).1.ops := by
  unfold putD
  split
  · intro x hx
    simp only [namesOf, List.map_append, List.mem_append, List.map_cons, List.map_nil] at hx ⊢
    exact hx.imp (fun h1 => h x h1) id
  · exact h
theorem drain_names : ∀ (f : Nat) (s : DS) (out : List Nm), (∀ x ∈ out, x ∈ namesOf s.ops) → ∀ x ∈ (drain f s out).2, x ∈ namesOf (drain f s out).1.ops
  | 0, _, _, h => h
  | f + 1, s, out, h => by
    rw [drain]
    cases hb : bestI s.ops s.wait s.wait.length with
    | none => exact h
    | some i =>
      obtain ⟨h1, e, he, hw⟩ := bestI_some hb
      simp only [he]
      exact drain_names f _ _ (putD_names ⟨s.ops, s.wait.eraseIdx i⟩ out e h)
theorem takeD_names (s : DS) (o : OpV) : ∀ x ∈ (takeD s o).2.1, x ∈ namesOf (takeD s o).1.ops := by
  unfold takeD
  split
  · split
    · simp
    · split
      · simp
      · split
        · exact drain_names _ _ _ (by simp [namesOf])
        · simp
  · simp
theorem drain_outlen : ∀ (f : Nat) (s : DS) (out : List Nm), (drain f s out).2.length ≤ out.length + f
  | 0, _, out => Nat.le_refl _
  | f + 1, s, out => by
    rw [drain]
    cases hb : bestI s.ops s.wait s.wait.length with
    | none => simp only; omega
    | some i =>
      obtain ⟨h1, e, he, hw⟩ := bestI_some hb
      simp only [he]
      have h2 := drain_outlen f (putD ⟨s.ops, s.wait.eraseIdx i⟩ out e).1 (putD ⟨s.ops, s.wait.eraseIdx i⟩ out e).2
      have h3 : (putD ⟨s.ops, s.wait.eraseIdx i⟩ out e).2.length ≤ out.length + 1 := by
        unfold putD
        split <;> simp
      omega
theorem takeD_outlen (s : DS) (o : OpV) : (takeD s o).2.1.length ≤ 1 + s.wait.length := by
  unfold takeD
  split
  · split
    · simp
    · split
      · simp
      · split
        · exact drain_outlen _ _ _
        · simp
  · simp
theorem nextD_w (s : DS) (a : Int) (d : Dr) : (nextD s a d).1.preds.length ≤ 32 := by
  unfold nextD
  split
  · simp [zeroOp]
  · split
    · simp [zeroOp]
    · simp only
      omega
end Go.Proofs.YtfoifdhcelcgiaaDoor
