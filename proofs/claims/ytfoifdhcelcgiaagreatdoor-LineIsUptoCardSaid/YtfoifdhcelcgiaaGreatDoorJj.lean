/-
  The set by the document: its names and heads; a draft at it.
-/
import Derived.Test.YtfoifdhcelcgiaaGreatDoorJi
import Derived.Deep.CutRange
/- The heads of a set by the document; a draft there. -/
namespace Go.Proofs.YtfoifdhcelcgiaaGreatDoor
open Go Go.RowKit

theorem op_at {w : World} {p : Option Addr} {O : List E3} (hs : SrcAt w p (ocs O)) (h : ∀ e ∈ O, e.cs.length = 38) {n : Nat} (hn : n < O.length) :
    ∃ e g off, O[n]? = some e ∧ O.take (n + 1) = O.take n ++ [e] ∧ e ∈ O ∧ p = some ⟨g, off, none⟩ ∧ cellsAt w g (off + n * 38) e.cs := by
  have hx : O[n]? = some O[n] := by simp [hn]
  have hl : O[n].cs.length = 38 := h _ (List.getElem_mem hn)
  have h0 : O[n].cs[0]? = some (O[n].cs[0]'(by omega)) := by rw [List.getElem?_eq_getElem]
  obtain ⟨g, off, hp, _⟩ := hs (38 * n + 0) _ (ocs_at h hx h0)
  refine ⟨O[n], g, off, hx, by rw [List.take_add_one, hx]; rfl, List.getElem_mem hn, hp, fun j u hj => ?_⟩
  obtain ⟨g', off', hp', hc⟩ := hs (38 * n + j) u (ocs_at h hx hj)
  have := Option.some.inj (hp.symm.trans hp')
  simp only [Addr.mk.injEq] at this
  obtain ⟨rfl, rfl, _⟩ := this
  rw [Nat.add_assoc, Nat.mul_comm]
  exact hc

theorem wpList_taken {P : Program} {ops : Array Oper} {w : World} {o : Oper} {rest : List Oper} {a : Act} {Q : Exit → Act → World → Prop} (hw : Region.wanted o (yielded ops a.tmps) = true) (h : o.wp P a w (wpList P ops Q rest) Q) : wpList P ops Q (o :: rest) a w := by
  unfold wpList
  rw [if_pos hw]
  exact .inl h
theorem wp_loadAgg {P : Program} {w : World} {o : Oper} {a : Act} {Q : Exit → Act → World → Prop} {K : Act → World → Prop} (t : TypeId) (x : Operand) (hop : o.op = .load t x) (d : TypeDesc) (hu : P.underlying t = some d) (hd : isRowD d = true)
    (b off : Nat) (hx : a.eval x = .pointer (some ⟨b, off, none⟩)) (cs : List Value) (hi : (P.info? t).map (·.size) = some cs.length) (hc : cellsAt w b off cs)
    (h : K (a.put o.dst (.agg cs.toArray)) w) : o.wp P a w K Q := by
  refine wp_run w ?_ h
  unfold execOp
  simp only [hop, hx, Instr.loadAt, Instr.sureAddr, Sem.run_bind, Sem.run_pure, Result.andThen_ok, run_loadAgg hu hd hi hc]
set_option maxRecDepth 100000 in
theorem wp_eqId {w : World} {o : Oper} {a : Act} {Q : Exit → Act → World → Prop} {K : Act → World → Prop} (u : TypeId) (x y : Operand) (ho : o.op = .binOp .eql 31 x y u)
    (l r : List UInt8) (hx : a.eval x = idv l) (hy : a.eval y = idv r) (h1 : l.length = 32) (h2 : r.length = 32)
    (hK : K (a.put o.dst (.bool (decide (l = r)))) w) : o.wp Tryz.prog a w K Q := by
  refine wp_run w ?_ hK
  unfold execOp
  simp only [ho, hx, hy, Sem.run_bind, run_eqGuard_agg w _ _ _ _ _ _ guardId, binOp, run_eq_id w l r h1 h2, Sem.run_pure, Result.andThen_ok]

def behindB (l : List E3) (n : Nm) : Bool := l.any fun e => decide (n ∈ e.o.preds)
theorem behindB_iff (O : List E3) (n : Nm) : behindB O n = !decide (behindN (O.map E3.ent) n = 0) := by
  unfold behindB behindN
  rw [Bool.eq_iff_iff, List.any_eq_true, Bool.not_eq_true', decide_eq_false_iff_not, List.count_eq_zero]
  simp [E3.ent, List.mem_flatMap]
  constructor
  · rintro ⟨x, hx, h⟩
    exact ⟨_, _, x, hx, rfl, rfl, h⟩
  · rintro ⟨_, _, x, hx, rfl, rfl, h⟩
    exact ⟨x, hx, h⟩

section
variable (b : Nat) (vo vw vn vm : Value) (F B : Nat → Prop) (O W : List E3)
set_option maxRecDepth 100000 in
set_option maxHeartbeats 16000000 in
theorem rheads_any (w : World) (h : RefSet w b vo vw vn vm F B O W) (hL : O.length ≤ 1000000) :
    Calls Tryz.prog 88 #[.pointer (some ⟨b, 0, none⟩)] w fun e w' => ∃ v, e = .returned v ∧ Owns w' w.heap.size 31 32 v (headsL ⟨O.map E3.ent, W.map E3.ent⟩).length (pcs (headsL ⟨O.map E3.ent, W.map E3.ent⟩)) ∧ Below w.heap.size w w' := by
  obtain ⟨i0, hi, hz0, hz1, hz2⟩ := info_parts idInfo3
  obtain ⟨hz, hid⟩ := info_two idInfo
  obtain ⟨hzo, hio⟩ := info_two opZero
  have HZ := Lib.hid hz
  have HI := Lib.hid hid
  have HZO := Lib.hid hzo
  obtain ⟨pn, cn, rfl⟩ := h.names.form
  obtain ⟨po, co, rfl⟩ := h.ops.form
  have HH := Lib.hid h
  have hblt := h.lt
  have hc2 := h.c2
  have HN32 := Lib.hid h.n32
  have HSN := Lib.hid h.names.srcOf
  have HSO := Lib.hid h.ops.srcOf
  have H38 := Lib.hid (show ∀ e ∈ O, e.cs.length = 38 from fun e he => OpV.cs_length (h.okO e he).ok _ _)
  obtain ⟨X, hX⟩ : ∃ X, X = O.map (·.n) := ⟨_, rfl⟩
  have hXl : O.length = X.length := by rw [hX]; simp
  change Hid (∀ x ∈ O.map (·.n), x.length = 32) at HN32
  have HSN' : Hid (Src w pn (pcs X)) := Lib.hid (by rw [hX]; exact HSN.out)
  rw [← hX] at HN32
  have HHD := Lib.hid (show headsL ⟨O.map E3.ent, W.map E3.ent⟩ = nsort (X.filter fun n => !behindB O n) by
    rw [headsL, names_ent .. |>.symm, ← hX]
    congr 1
    refine List.filter_congr fun n _ => ?_
    rw [behindB_iff, Bool.not_not])
  have hXl2 : X.length ≤ 1000000 := by omega
  rw [hXl] at hc2
  clear h hz hid hzo hio hX HSN
  go_enter Tryz.func88, Tryz.ntmps88
  go_wp2_with fail
  clear hc2
  go_loopw [3, 16] (fun v x wr => ∃ (n : Nat) (L : List Nm), n ≤ X.length ∧ x = .int .i64 n ∧ L.length ≤ n ∧ Hid (L = (X.take n).filter fun n => !behindB O n) ∧ Hid (Owns wr w.heap.size 31 32 v L.length (pcs L)) ∧ Hid (Below w.heap.size w wr)) (fun _ x _ => X.length - (intOf x).toNat)
  case atStart => exact ⟨0, [], by omega, rfl, by simp, Lib.hid rfl, Lib.hid (Owns.nil _ _ _ _), Lib.hid (Below.refl _ _)⟩
  case round =>
    obtain ⟨n, L, hn1, rfl, hlen, HLd, hown, hbr⟩ := hrel
    have hszr := hbr.out.size
    by_cases hlt2 : n < X.length
    · obtain ⟨nm, g, off, hx1, hx2, hx3, rfl, hx4⟩ := pred_at HSN'.out.at_ HN32.out hlt2
      have hg := bcs_at_lt hx4 hx3
      have HX := Lib.hid (show cellsAt wr g (off + n * 32) (bcs nm) from hx4.of_block (hbr.out.block _ hg))
      have HTK := Lib.hid hx2
      have HNM := Lib.hid hx3
      have HZX := Lib.hid (show (fillB [] 32).size = (bcs nm).toArray.size by rw [show (bcs nm).toArray.size = (bcs nm).length from rfl, bcs_length, hx3]; rfl)
      clear hx1 hx2 hx3 hx4
      go_upto_region 5 with (first
        | (refine wpList_loadAgg _ rfl 31 _ rfl _ Tryz.underlying31 rfl g (off + n * 32) (by rfl) (bcs nm) (by rw [HI.out, bcs_length, HNM.out]) HX.out ?_)
        | (refine wpList_allocZ _ rfl 31 rfl _ HZ.out ?_)
        | (refine wpList_storeNew _ wr rfl 31 _ _ rfl (fillB [] 32) rfl (by rfl) (bcs nm).toArray (by rfl) (by rw [HI.out, List.size_toArray, bcs_length, HNM.out]) HZX.out (by simpa using bcs_one nm) ?_))
      obtain ⟨kp, hkp⟩ : ∃ kp, kp = wr.heap.size := ⟨_, rfl⟩
      obtain ⟨w2, hw2⟩ : ∃ w2, w2 = wr.alloc (.cells (bcs nm).toArray 31) := ⟨_, rfl⟩
      rw [← hw2, ← hkp]
      have hb2 : Below wr.heap.size wr w2 := by rw [hw2]; exact (Below.refl _ wr).alloc (Nat.le_refl _) _
      have HPC2 := Lib.hid (show cellsAt w2 kp 0 (bcs nm) by rw [hw2, hkp]; simpa using cellsAt_new wr (bcs nm).toArray 31)
      have hz2' : kp < w2.heap.size := by rw [hw2, hkp]; simp
      have hz2k : wr.heap.size ≤ kp := by omega
      have HB2 := Lib.hid (hbr.out.trans (hb2.mono (by omega)))
      have HO2 := Lib.hid (hown.out.under hb2)
      have HH2 := Lib.hid (HH.out.under HB2.out)
      have hcc := HH2.out.c0
      clear hw2 hb2 hkp
      go_wp2_with fail
      clear hcc
      go_loopw [6, 25] (fun f x wz => ∃ m : Nat, m ≤ O.length ∧ x = .int .i64 m ∧ f = .bool (behindB (O.take m) nm) ∧ Hid (Below w2.heap.size w2 wz)) (fun _ x _ => O.length - (intOf x).toNat)
      case atStart => exact ⟨0, by omega, rfl, rfl, Lib.hid (Below.refl _ _)⟩
      case round =>
        obtain ⟨m, hm, rfl, rfl, HBZ⟩ := hrel
        have hszz := HBZ.out.size
        by_cases hlm : m < O.length
        · obtain ⟨e, gO, oO, he1, he2, he3, hpe, he4⟩ := op_at HSO.out.at_ H38.out hlm
          subst hpe
          have hgO := cellsAt_lt he4 (by rw [H38.out e he3]; omega)
          obtain ⟨eo, heo⟩ : ∃ x, x = e.o := ⟨_, rfl⟩
          obtain ⟨ep, hep⟩ : ∃ x, x = e.p := ⟨_, rfl⟩
          obtain ⟨ec, hec⟩ : ∃ x, x = e.c := ⟨_, rfl⟩
          obtain ⟨cs, hcs⟩ : ∃ x, x = eo.cs ep ec := ⟨_, rfl⟩
          have hcs2 : cs = e.cs := by rw [hcs, heo, hep, hec]; rfl
          have HEC := Lib.hid (show cellsAt wr gO (oO + m * 38) cs by rw [hcs2]; exact he4.of_block ((HBZ.out.block _ (by omega)).trans (HB2.out.block _ hgO)))
          have HET := Lib.hid (show behindB (O.take (m + 1)) nm = (behindB (O.take m) nm || decide (nm ∈ eo.preds)) by rw [he2, heo]; simp [behindB])
          have HEOK := Lib.hid (show eo.Ok by rw [heo]; exact (HH.out.okO e he3).ok)
          have HESR := Lib.hid (show Src w ep (pcs eo.preds) by rw [heo, hep]; exact (HH.out.okO e he3).src)
          have HE38 := Lib.hid (show cs.length = 38 by rw [hcs2]; exact H38.out e he3)
          have HE1 := Lib.hid (show ∀ u ∈ cs, u.oneCell' = true by rw [hcs]; exact OpV.cs_one eo ep ec)
          have HCSX := Lib.hid hcs
          clear he1 he2 he3 he4 heo hep hec hcs2 hcs
          go_upto_region 9 with (first
            | (refine wpList_loadAgg _ rfl 46 _ rfl _ Tryz.underlying46 rfl gO (oO + m * 38) (by rfl) cs (by rw [opInfo, HE38.out]) HEC.out ?_)
            | (refine wpList_allocZ _ rfl 46 rfl _ HZO.out ?_)
            | (refine wpList_storeNew _ wr rfl 46 _ _ rfl _ rfl (by rfl) cs.toArray (by rfl) (by rw [opInfo, List.size_toArray, HE38.out]) (show 38 = cs.toArray.size by rw [List.size_toArray, HE38.out]) (by simpa using HE1.out) ?_))
          obtain ⟨ke, hke⟩ : ∃ ke, ke = wr.heap.size := ⟨_, rfl⟩
          obtain ⟨w3, hw3⟩ : ∃ w3, w3 = wr.alloc (.cells cs.toArray 46) := ⟨_, rfl⟩
          rw [← hw3, ← hke]
          have hb3 : Below wr.heap.size wr w3 := by rw [hw3]; exact (Below.refl _ wr).alloc (Nat.le_refl _) _
          have hec : cellsAt w3 ke 0 (eo.cs ep ec) := by rw [← HCSX.out, hw3, hke]; simpa using cellsAt_new wr cs.toArray 46
          have h37 := (OpV.cs_at HEOK.out hec).2.2
          have HB3 := Lib.hid (HBZ.out.trans (hb3.mono (by omega)))
          have hz3 := hb3.size
          have HES := Lib.hid (HESR.out.below (HB2.out.trans (HB3.out.mono (by omega))) (Nat.le_refl _))
          have hpl := HEOK.out.len
          clear hw3 hb3 hec hke
          go_wp2_with fail
          clear h37
          go_loopw [6, 32] (fun f x wy => ∃ j : Nat, j ≤ eo.preds.length ∧ x = .int .i64 j ∧ f = .bool (behindB (O.take m) nm || decide (nm ∈ eo.preds.take j)) ∧ Hid (Below w3.heap.size w3 wy)) (fun _ x _ => eo.preds.length - (intOf x).toNat)
          case atStart => exact ⟨0, by omega, rfl, by simp, Lib.hid (Below.refl _ _)⟩
          case round =>
            obtain ⟨j, hj, rfl, rfl, HBY⟩ := hrel
            have hszy := HBY.out.size
            by_cases hlj : j < eo.preds.length
            · obtain ⟨y, gy, oy, hy1, hy2, hy3, hpy, hy4⟩ := pred_at HES.out.at_ HEOK.out.ids hlj
              subst hpy
              have hgy := bcs_at_lt hy4 hy3
              have HY := Lib.hid (show cellsAt wr gy (oy + j * 32) (bcs y) from hy4.of_block (HBY.out.block _ hgy))
              have HYT := Lib.hid hy2
              have HY3 := Lib.hid hy3
              have HZY := Lib.hid (show (fillB [] 32).size = (bcs y).toArray.size by rw [show (bcs y).toArray.size = (bcs y).length from rfl, bcs_length, hy3]; rfl)
              clear hy1 hy2 hy3 hy4
              go_upto_region 12 with (first
                | (refine wpList_loadAgg _ rfl 31 _ rfl _ Tryz.underlying31 rfl gy (oy + j * 32) (by rfl) (bcs y) (by rw [HI.out, bcs_length, HY3.out]) HY.out ?_)
                | (refine wpList_allocZ _ rfl 31 rfl _ HZ.out ?_)
                | (refine wpList_storeNew _ wr rfl 31 _ _ rfl (fillB [] 32) rfl (by rfl) (bcs y).toArray (by rfl) (by rw [HI.out, List.size_toArray, bcs_length, HY3.out]) HZY.out (by simpa using bcs_one y) ?_))
              obtain ⟨ky, hky⟩ : ∃ ky, ky = wr.heap.size := ⟨_, rfl⟩
              obtain ⟨w4, hw4⟩ : ∃ w4, w4 = wr.alloc (.cells (bcs y).toArray 31) := ⟨_, rfl⟩
              rw [← hw4, ← hky]
              have hb4 : Below wr.heap.size wr w4 := by rw [hw4]; exact (Below.refl _ wr).alloc (Nat.le_refl _) _
              have HYC := Lib.hid (show cellsAt w4 ky 0 (bcs y) by rw [hw4, hky]; simpa using cellsAt_new wr (bcs y).toArray 31)
              have HPC4 := Lib.hid (HPC2.out.of_block ((hb4.block _ (by omega)).trans ((HBY.out.block _ (by omega)).trans (HB3.out.block _ hz2'))))
              have HBY4 := Lib.hid (HBY.out.trans (hb4.mono (by omega)))
              clear hw4 hb4 hky
              obtain ⟨fb, hfb⟩ : ∃ fb, fb = (behindB (O.take m) nm || decide (nm ∈ eo.preds.take j)) := ⟨_, rfl⟩
              rw [← hfb]
              have HFB := Lib.hid hfb
              clear hfb
              have HREL := Lib.hid (show (behindB (O.take m) nm || decide (nm ∈ eo.preds.take (j + 1))) = (fb || decide (y = nm)) by
                have h1 : decide (nm ∈ eo.preds.take (j + 1)) = (decide (nm ∈ eo.preds.take j) || decide (y = nm)) := by
                  rw [Bool.eq_iff_iff, Bool.or_eq_true, decide_eq_true_iff, decide_eq_true_iff, decide_eq_true_iff, HYT.out, List.mem_append, List.mem_singleton]
                  exact ⟨fun h => h.imp id Eq.symm, fun h => h.imp id Eq.symm⟩
                rw [h1, ← Bool.or_assoc, ← HFB.out])
              cases fb with
              | true =>
                go_wp2
                go_roundw
                case rel => exact ⟨j + 1, by omega, by go_num, by rw [HREL.out, Bool.true_or], HBY4⟩
                case measure => simp [intOf] <;> omega
              | false =>
                go_wp2_with (first
                  | (refine wpList_taken (by rfl) ?_; refine wp_loadAgg 31 _ rfl _ Tryz.underlying31 rfl ky 0 (by rfl) (bcs y) (by rw [HI.out, bcs_length, HY3.out]) HYC.out ?_)
                  | (refine wpList_taken (by rfl) ?_; refine wp_loadAgg 31 _ rfl _ Tryz.underlying31 rfl kp 0 (by rfl) (bcs nm) (by rw [HI.out, bcs_length, HNM.out]) HPC4.out ?_)
                  | (refine wpList_taken (by rfl) ?_; refine wp_eqId _ _ _ rfl y nm (by rfl) (by rfl) HY3.out HNM.out ?_))
                go_roundw
                case rel => exact ⟨j + 1, by omega, by go_num, by rw [HREL.out, Bool.false_or], HBY4⟩
                case measure => simp [intOf] <;> omega
            · obtain rfl : j = eo.preds.length := by omega
              go_wp2
              go_roundw
              case rel => exact ⟨m + 1, by omega, by go_num, by rw [HET.out, List.take_length], Lib.hid (HB3.out.trans (HBY.out.mono (by omega)))⟩
              case measure => simp [intOf] <;> omega
        · obtain ⟨bb, hbb⟩ : ∃ bb, bb = behindB (O.take m) nm := ⟨_, rfl⟩
          rw [← hbb]
          obtain rfl : m = O.length := by omega
          rw [List.take_length] at hbb
          have HBH := Lib.hid hbb
          clear hbb
          have HCP := Lib.hid (HPC2.out.of_block (HBZ.out.block _ hz2'))
          have HOZ := Lib.hid (HO2.out.under HBZ.out)
          have HBZ2 := Lib.hid (HB2.out.trans (HBZ.out.mono (by omega)))
          have hszz2 := HBZ2.out.size
          cases bb with
          | true =>
            go_wp2
            go_roundw
            case rel => exact ⟨n + 1, L, by omega, by go_num, by omega, Lib.hid (by rw [HTK.out, List.filter_append, HLd.out]; simp [← HBH.out]), HOZ, HBZ2⟩
            case measure => simp [intOf] <;> omega
          | false =>
            go_wp2_with (first
              | (refine wpList_loadAgg _ rfl 31 _ rfl _ Tryz.underlying31 rfl kp 0 (by rfl) (bcs nm) (by rw [HI.out, bcs_length, HNM.out]) HCP.out ?_)
              | (refine wpList_buildOne _ rfl 28 _ rfl 31 32 _ Tryz.underlying28 HI.out (by omega) (by omega) HZ.out (bcs nm).toArray (by rfl) (by rw [List.size_toArray, bcs_length, HNM.out]) ?_)
              | (at_builtin; refine wpList_append_G rfl _ _ 28 rfl w.heap.size 31 i0 _ 32 32 Tryz.underlying28 hi hz0 hz1 hz2 (by rfl) (by omega) u3 L.length (pcs L) (by rfl) (HOZ.out.alloc _) (some ⟨wr.heap.size, 0, none⟩) 1 1 (bcs nm) (by rfl) (by rw [bcs_length, HNM.out]) (src_new wr (bcs nm) 31) (fun a e => by cases e; rfl) (bcs_one nm) (by unfold maxLen; omega) (by omega) (by rw [World.size_alloc]; omega) ?_; intro v4 w4 hown4 hg4 hs4))
            have hb4 : Below w.heap.size w w4 := below_grown (HBZ2.out.alloc (by omega) _) hg4 (HOZ.out.alloc _) (by rw [World.size_alloc]; omega)
            rw [show pcs L ++ bcs nm = pcs (L ++ [nm]) by simp [pcs], show L.length + 1 = (L ++ [nm]).length by simp] at hown4
            go_roundw
            case rel => exact ⟨n + 1, L ++ [nm], by omega, by go_num, by simp; omega, Lib.hid (by rw [HTK.out, List.filter_append, HLd.out]; simp [← HBH.out]), Lib.hid hown4, Lib.hid hb4⟩
            case measure => simp [intOf] <;> omega
    · obtain rfl : n = X.length := by omega
      obtain ⟨pv, cv, rfl⟩ := hown.out.form
      have hL32 : ∀ x ∈ L, x.length = 32 := fun x hx => by
        rw [HLd.out] at hx
        exact HN32.out x (List.mem_of_mem_take (List.mem_filter.1 hx).1)
      have hlen2 : L.length ≤ 1000000 := by omega
      have hcr := rising_any L pv cv wr hL32 hown.out.srcOf hlen2
      have hf : headsL ⟨O.map E3.ent, W.map E3.ent⟩ = risingL L := by rw [HHD.out, HLd.out, List.take_length, risingL_eq]
      have HF := Lib.hid hf
      have HCR := Lib.hid hcr
      clear hcr hL32 hf
      go_wp2_with (go_at_call 64; refine HCR.out.mono ?_; rintro e w9 ⟨v9, rfl, hown9, hb9⟩)
      go_ret
      rw [HF.out]
      exact ⟨v9, rfl, hown9.down hszr, hbr.out.trans (hb9.mono hszr)⟩
end
end Go.Proofs.YtfoifdhcelcgiaaGreatDoor

/- A draft at a set by the document. -/
namespace Go.Proofs.YtfoifdhcelcgiaaGreatDoor
open Go Go.RowKit

section
variable {P : Program} {S : World → Prop} {md : Region.Mode} {n : Nat} {ops : Array Oper} {Q : Exit → Act → World → Prop}
/-- two that act may come next -/
theorem Till.two (i j : Nat) {fuel : Nat} {oi oj : Oper} {listed : Array Bool} {a : Act} {w : World} {rest rest' : List Oper} (hi0 : ops.toList.drop i = oi :: rest) (hj0 : ops.toList.drop j = oj :: rest') (hin : decide (i < n) = true) (hjn : decide (j < n) = true) (hr : Region.ready md ops listed = [i, j])
    (hwi : Region.wanted oi (yielded ops a.tmps) = true) (hwj : Region.wanted oj (yielded ops a.tmps) = true)
    (h1 : ∀ K : Act → World → Prop, (∀ a' w', S w' → Till P md ops Q S n fuel (listed.setIfInBounds i true) a' w' → K a' w') → oi.wp P a w K Q)
    (h2 : ∀ K : Act → World → Prop, (∀ a' w', S w' → Till P md ops Q S n fuel (listed.setIfInBounds j true) a' w' → K a' w') → oj.wp P a w K Q) :
    Till P md ops Q S n (fuel + 1) listed a w := fun ok inv => by
  have hi := at_drop hi0
  have hj := at_drop hj0
  have hin' : i < n := of_decide_eq_true hin
  have hjn' : j < n := of_decide_eq_true hjn
  have hri : i ∈ Region.ready md ops listed := by rw [hr]; simp
  have hrj : j ∈ Region.ready md ops listed := by rw [hr]; simp
  unfold wpTill
  rw [if_neg (upB_at hin' (mem_ready.1 hri).1)]
  refine ⟨fun h0 => (by rw [hr] at h0; cases h0), fun k hk => ?_⟩
  rw [hr] at hk
  have hk2 : k = i ∨ k = j := by simpa using hk
  rcases hk2 with rfl | rfl
  · have := h1 (fun a' w' => S w' ∧ wpTill P md ops Q S n fuel (listed.setIfInBounds k true) a' w') (fun a' w' hS hT => ⟨hS, hT ok (inv.set hri hin')⟩)
    unfold wpOp
    simp only [hi]
    rw [if_pos hwi]
    exact .inl this
  · have := h2 (fun a' w' => S w' ∧ wpTill P md ops Q S n fuel (listed.setIfInBounds k true) a' w') (fun a' w' hS hT => ⟨hS, hT ok (inv.set hrj hjn')⟩)
    unfold wpOp
    simp only [hj]
    rw [if_pos hwj]
    exact .inl this
/-- one that hands back a value in every world, and leaves it -/
theorem Till.val (i : Nat) {fuel : Nat} {oi : Oper} {listed : Array Bool} {a : Act} {w : World} (v : Value) {rest : List Oper} (hi0 : ops.toList.drop i = oi :: rest) (hw : Region.wanted oi (yielded ops a.tmps) = true)
    (hB : mayB md ops n i listed = true) (hQ : NoFrame Q) (hS : S w) (hl : ∀ w', (execOp a.eval oi).run P w' = .ok (.value v) w')
    (h : Till P md ops Q S n fuel (listed.setIfInBounds i true) (a.put oi.dst v) w) : Till P md ops Q S n (fuel + 1) listed a w :=
  Till.take (v := v) (at_drop hi0) hB hQ hS (.inl ⟨hw, fun w' _ => hl w'⟩) h
end
theorem exec_buildOp {o : Oper} {a : Act} (x0 x1 x3 : Operand) (hop : o.op = .build 46 #[(0, x0), (1, x1), (3, x3)]) {d : Dr} (hd : d.Ok) (au : Int) (p : Option Addr) (n c : Nat)
    (h0 : a.eval x0 = drv d) (h1 : a.eval x1 = .int .i64 au) (h3 : a.eval x3 = .slice p n c) (w : World) : (execOp a.eval o).run Tryz.prog w = .ok (.value (.agg (opCs d au p n c).toArray)) w := by
  have hr := run_buildOp hd au p n c w
  unfold execOp
  simp only [hop, List.map_toArray, List.map_cons, List.map_nil, h0, h1, h3, Sem.run_bind, hr, Result.andThen_ok, Sem.run_pure]

set_option maxRecDepth 100000 in
set_option maxHeartbeats 16000000 in
theorem rnext_any (b : Nat) (vo vw vn vm : Value) (F B : Nat → Prop) (O W : List E3) (a : Int) (ha1 : -9223372036854775808 ≤ a) (ha2 : a ≤ 9223372036854775807) (d : Dr) (hd : d.Ok) (w : World) (h : RefSet w b vo vw vn vm F B O W) (hL : O.length ≤ 1000000) :
    Calls Tryz.prog 63 #[.pointer (some ⟨b, 0, none⟩), .int .i64 a, drv d] w fun e w' => Below w.heap.size w w' ∧
      ∃ p c, e = .returned (.tuple #[.agg ((nextD ⟨O.map E3.ent, W.map E3.ent⟩ a d).1.cs p c).toArray, .int .i64 (nextD ⟨O.map E3.ent, W.map E3.ent⟩ a d).2]) ∧
        Owns w' w.heap.size 31 32 (.slice p (nextD ⟨O.map E3.ent, W.map E3.ent⟩ a d).1.preds.length c) (nextD ⟨O.map E3.ent, W.map E3.ent⟩ a d).1.preds.length (pcs (nextD ⟨O.map E3.ent, W.map E3.ent⟩ a d).1.preds) := by
  obtain ⟨hzo, hio⟩ := info_two opZero
  have HZO := Lib.hid hzo
  have HD := Lib.hid hd
  have HCD := Lib.hid (Dr.cs_length hd)
  have hblt := h.lt
  obtain ⟨S, hS⟩ : ∃ S : DS, S = ⟨O.map E3.ent, W.map E3.ent⟩ := ⟨_, rfl⟩
  obtain ⟨w1, hw1⟩ : ∃ w1, w1 = (w.alloc (.cells d.cs.toArray 44)).alloc (.cells (zeroOp.cs none 0).toArray 46) := ⟨_, rfl⟩
  have hb1 : Below w.heap.size w w1 := by rw [hw1]; exact ((Below.refl _ w).alloc (Nat.le_refl _) _).alloc (by simp) _
  have HC1 := Lib.hid (show cellsAt w1 w.heap.size 0 d.cs by
    rw [hw1]
    exact cellsAt.of_block (by simpa using cellsAt_new w d.cs.toArray 44) ((MapKept.heap_alloc _ _).2 _ (by simp)))
  have HD1 := Lib.hid (show w1.heap[w.heap.size + 1]? = some (.cells (zeroOp.cs none 0).toArray 46 (0, 0)) by rw [hw1]; exact heap_alloc2 _ _ _)
  have hz1 : w.heap.size + 2 ≤ w1.heap.size := by rw [hw1]; simp
  have HB1 := Lib.hid hb1
  have HH1 := Lib.hid (h.under hb1)
  have HHD := Lib.hid (fun (wx : World) (hx : RefSet wx b vo vw vn vm F B O W) => rheads_any b vo vw vn vm F B O W wx hx hL)
  rw [← hS] at HHD ⊢
  obtain ⟨X, hX⟩ : ∃ X, X = headsL S := ⟨_, rfl⟩
  rw [← hX] at HHD
  have hXO : ∀ x ∈ X, x ∈ O.map (·.n) := fun x hx => by
    rw [hX] at hx
    have := headsL_len S x hx
    rw [hS] at this
    simpa only [← names_ent] using this
  have hX32 : ∀ x ∈ X, x.length = 32 := fun x hx => h.n32 x (hXO x hx)
  have hXl : X.length ≤ 1000000 := by
    have := headsL_le S
    rw [← hX, hS] at this
    simp at this
    omega
  have hok0 : (⟨d, a, 0, X⟩ : OpV).Ok := by
    constructor <;> first | exact hd | exact hX32 | (simp <;> omega)
  have HOK0 := Lib.hid hok0
  have HWH := Lib.hid (show wholeB (O.map E3.ent) (⟨d, a, 0, X⟩ : OpV) = true by
    rw [wholeB, List.all_eq_true]
    exact fun x hx => (hasN_mem O x).2 (hXO x hx))
  have HXS := Lib.hid hX
  have HSS := Lib.hid hS
  clear h hd hb1 hX32 hX hzo hio hok0 hS hXO
  go_enter Tryz.func63, Tryz.ntmps63
  go_upto_region 1 with (first
    | (refine wpList_boxAgg _ rfl 44 _ rfl d.cs.toArray (by rfl) ?_)
    | (refine wpList_allocZ _ rfl 46 rfl _ HZO.out ?_))
  rw [show (w.alloc (.cells d.cs.toArray 44)).alloc (.cells (zeroOp.cs none 0).toArray 46) = w1 from hw1.symm]
  clear hw1
  obtain ⟨gd, hgd⟩ : ∃ gd, gd = goodD d := ⟨_, rfl⟩
  have hcg := rgoodD_any d HD.out w1
  rw [← hgd] at hcg
  have HCG := Lib.hid hcg
  have HGD := Lib.hid hgd
  clear hcg hgd
  cases gd with
  | false =>
    have HNX := Lib.hid (show nextD S a d = (zeroOp, 1) by
      unfold nextD
      rw [if_pos (.inl HGD.out.symm)])
    go_wp2_with (first
      | (refine wpList_loadAgg _ rfl 44 _ rfl _ Tryz.underlying44 rfl w.heap.size 0 (by rfl) d.cs (by rw [draftInfo, HCD.out]) HC1.out ?_)
      | (go_at_call 87; refine HCG.out.mono ?_; rintro e w6 ⟨rfl, hb6⟩)
      | (refine wpList_buildZ _ rfl 46 rfl _ (build_op _) ?_)
      | (refine wpList_storeRow rfl 46 _ _ rfl ((hb6.block _ (by omega)).trans HD1.out) (by rfl) (zeroOp.cs none 0).toArray (by rfl) (by rw [opInfo]; rfl) (by rfl) (by simpa using OpV.cs_one zeroOp none 0) ?_; intro w7 hw7 hg7 hs7))
    have hz6 := hb6.size
    have hcf : cellsAt w7 (w.heap.size + 1) 0 (zeroOp.cs none 0) := fun j u hj => by rw [cell_of_row _ _ _ _ _ _ hw7, Nat.zero_add]; simpa using hj
    have hbf : Below w.heap.size w w7 := (HB1.out.trans (hb6.mono (by omega))).grown hg7 (by omega) (fun k e => by have := Option.some.inj e; omega)
    refine bodyPost_ret (results_cell_tmp rfl (by rfl) (run_loadAgg Tryz.underlying46 rfl (by rw [opInfo]; rfl) hcf)) rfl ⟨hbf, none, 0, by rw [HNX.out]; rfl, by rw [HNX.out]; exact Owns.nil _ _ _ _⟩
  | true =>
    by_cases h1 : a < 0
    · have d1 : decide (a < 0) = true := by simpa using h1
      have HNX := Lib.hid (show nextD S a d = (zeroOp, 1) by
        unfold nextD
        rw [if_pos (.inr (.inl h1))])
      go_wp2_with (first
        | (refine wpList_loadAgg _ rfl 44 _ rfl _ Tryz.underlying44 rfl w.heap.size 0 (by rfl) d.cs (by rw [draftInfo, HCD.out]) HC1.out ?_)
        | (go_at_call 87; refine HCG.out.mono ?_; rintro e w6 ⟨rfl, hb6⟩)
        | (refine wpList_buildZ _ rfl 46 rfl _ (build_op _) ?_)
        | (refine wpList_storeRow rfl 46 _ _ rfl ((hb6.block _ (by omega)).trans HD1.out) (by rfl) (zeroOp.cs none 0).toArray (by rfl) (by rw [opInfo]; rfl) (by rfl) (by simpa using OpV.cs_one zeroOp none 0) ?_; intro w7 hw7 hg7 hs7))
      have hz6 := hb6.size
      have hcf : cellsAt w7 (w.heap.size + 1) 0 (zeroOp.cs none 0) := fun j u hj => by rw [cell_of_row _ _ _ _ _ _ hw7, Nat.zero_add]; simpa using hj
      have hbf : Below w.heap.size w w7 := (HB1.out.trans (hb6.mono (by omega))).grown hg7 (by omega) (fun k e => by have := Option.some.inj e; omega)
      refine bodyPost_ret (results_cell_tmp rfl (by rfl) (run_loadAgg Tryz.underlying46 rfl (by rw [opInfo]; rfl) hcf)) rfl ⟨hbf, none, 0, by rw [HNX.out]; rfl, by rw [HNX.out]; exact Owns.nil _ _ _ _⟩
    · have d1 : decide (a < 0) = false := by simpa using h1
      by_cases h2 : a > 4
      · have d2 : decide (a > 4) = true := by simpa using h2
        have d3 : decide (4 < a) = true := by simpa using h2
        have HNX := Lib.hid (show nextD S a d = (zeroOp, 1) by
          unfold nextD
          rw [if_pos (.inr (.inr h2))])
        go_wp2_with (first
          | (refine wpList_loadAgg _ rfl 44 _ rfl _ Tryz.underlying44 rfl w.heap.size 0 (by rfl) d.cs (by rw [draftInfo, HCD.out]) HC1.out ?_)
          | (go_at_call 87; refine HCG.out.mono ?_; rintro e w6 ⟨rfl, hb6⟩)
          | (refine wpList_buildZ _ rfl 46 rfl _ (build_op _) ?_)
          | (refine wpList_storeRow rfl 46 _ _ rfl ((hb6.block _ (by omega)).trans HD1.out) (by rfl) (zeroOp.cs none 0).toArray (by rfl) (by rw [opInfo]; rfl) (by rfl) (by simpa using OpV.cs_one zeroOp none 0) ?_; intro w7 hw7 hg7 hs7))
        have hz6 := hb6.size
        have hcf : cellsAt w7 (w.heap.size + 1) 0 (zeroOp.cs none 0) := fun j u hj => by rw [cell_of_row _ _ _ _ _ _ hw7, Nat.zero_add]; simpa using hj
        have hbf : Below w.heap.size w w7 := (HB1.out.trans (hb6.mono (by omega))).grown hg7 (by omega) (fun k e => by have := Option.some.inj e; omega)
        refine bodyPost_ret (results_cell_tmp rfl (by rfl) (run_loadAgg Tryz.underlying46 rfl (by rw [opInfo]; rfl) hcf)) rfl ⟨hbf, none, 0, by rw [HNX.out]; rfl, by rw [HNX.out]; exact Owns.nil _ _ _ _⟩
      · have d2 : decide (a > 4) = false := by simpa using h2
        have d3 : decide (4 < a) = false := by simpa using h2
        have hcond : ¬ (goodD d = false ∨ a < 0 ∨ a > 4) := by
          rw [← HGD.out]
          simp
          omega
        have HCOND := Lib.hid hcond
        clear hcond
        go_upto_region 3 with (first
          | (refine wpList_loadAgg _ rfl 44 _ rfl _ Tryz.underlying44 rfl w.heap.size 0 (by rfl) d.cs (by rw [draftInfo, HCD.out]) HC1.out ?_)
          | (go_at_call 87; refine HCG.out.mono ?_; rintro e w6 ⟨rfl, hb6⟩))
        have hz6 := hb6.size
        have HB6 := Lib.hid (HB1.out.trans (hb6.mono (by omega)))
        have HC6 := Lib.hid (HC1.out.of_block (hb6.block _ (by omega)))
        have HD6 := Lib.hid ((hb6.block _ (by omega)).trans HD1.out)
        have HH6 := Lib.hid (HH1.out.under hb6)
        clear hb6 d1 d2 d3
        go_cut [8] from 9 to 35 (fun v wx => ∃ (k : Nat) (p2 : Option Addr) (c2 : Nat), v = .pointer (some ⟨k, 0, none⟩) ∧ w6.heap.size ≤ k ∧ Hid (wx.heap[k]? = some (.cells (opCs d a p2 X.length c2).toArray 46 (0, 0))) ∧ Hid (Below w6.heap.size w6 wx) ∧ Hid (Owns wx w6.heap.size 31 32 (.slice p2 X.length c2) X.length (pcs X)) ∧ (∀ off, p2 ≠ some ⟨k, off, none⟩))
        case first =>
          obtain ⟨N6, hN6a, hN6b⟩ : ∃ n, w6.heap.size ≤ n ∧ n ≤ w6.heap.size := ⟨_, Nat.le_refl _, Nat.le_refl _⟩
          refine wp_region_noPanic ?_
          refine wp_region_till 6 (fun w' => Below N6 w6 w') (by kernel_rfl) (by kernel_rfl) ?_
          obtain ⟨wA, hwA⟩ : ∃ wA, wA = w6.drew := ⟨_, rfl⟩
          have hSwA : Below N6 w6 wA := by rw [hwA]; exact (Below.refl N6 w6).drew
          rw [← hwA]
          have HSA := Lib.hid hSwA
          have hzwA : wA.heap.size = w6.heap.size := by rw [hwA]; rfl
          clear hwA hSwA
          go_simp
          have hzl : w6.heap.size ≤ wA.heap.size := by omega
          have hzg : wA.heap.size ≤ w6.heap.size := by omega
          clear hzwA
          refine Till.load 0 44 _ ⟨w.heap.size, 0, none⟩ (drv d) rfl rfl rfl rfl (by kernel_rfl) (NoPanic.noFrame _) HSA.out (fun w' hw' => run_loadAgg Tryz.underlying44 rfl (by rw [draftInfo, HCD.out]) (HC6.out.of_block (hw'.block _ (by omega)))) ?_
          go_simp
          refine Till.pure 1 rfl rfl (by kernel_rfl) (NoPanic.noFrame _) HSA.out ?_
          go_big_quiet_step (fail)
          refine wpQuiet_nil ?_
          refine Till.pure 2 rfl rfl (by kernel_rfl) (NoPanic.noFrame _) HSA.out ?_
          go_big_quiet_step (fail)
          refine wpQuiet_nil ?_
          refine Till.two 3 5 rfl rfl (by kernel_rfl) (by kernel_rfl) (by kernel_rfl) rfl rfl ?_ ?_
          · intro K hK
            go_wp2_with (go_at_call 88; refine (HHD.out wA (HH6.out.below HSA.out hN6a)).mono ?_; rintro e w7 ⟨v7, rfl, hown7, hb7⟩; obtain ⟨p7, c7, rfl⟩ := hown7.form)
            have hz7 := hb7.size
            have hS7 := HSA.out.trans (hb7.mono (by omega))
            refine hK _ _ hS7 ?_
            clear hK K
            refine Till.val 4 (.agg (opCs d a p7 X.length c7).toArray) rfl rfl (by kernel_rfl) (NoPanic.noFrame _) hS7 (fun w' => exec_buildOp _ _ _ rfl HD.out a p7 X.length c7 (by rfl) (by rfl) (by rfl) w') ?_
            go_simp
            refine Till.act 5 rfl rfl (by kernel_rfl) rfl ?_
            intro K hK
            refine wp_allocZ _ 46 rfl _ HZO.out ?_
            refine hK _ _ (hS7.alloc (by omega) _) ?_
            clear hK K
            refine Till.tail _ rfl rfl (by kernel_rfl) (by kernel_rfl) ?_
            have h38 : (opCs d a p7 X.length c7).length = 38 := OpV.cs_length HOK0.out p7 c7
            have hone : ∀ u ∈ opCs d a p7 X.length c7, u.oneCell' = true := OpV.cs_one (⟨d, a, 0, X⟩ : OpV) p7 c7
            refine wpList_storeNew _ w7 rfl 46 _ _ rfl _ rfl (by rfl) (opCs d a p7 X.length c7).toArray (by rfl) (by rw [opInfo, List.size_toArray, h38]) (show 38 = (opCs d a p7 X.length c7).toArray.size by rw [List.size_toArray, h38]) (by simpa using hone) ?_
            have hF1 : Hid ((w7.alloc (.cells (opCs d a p7 X.length c7).toArray 46)).heap[w7.heap.size]? = some (.cells (opCs d a p7 X.length c7).toArray 46 (0, 0))) := Lib.hid (MapKept.heap_alloc _ _).1
            have hF2 := Lib.hid ((hS7.mono hN6a).alloc (by omega) (.cells (opCs d a p7 X.length c7).toArray 46))
            have hF3 := Lib.hid ((hown7.alloc (.cells (opCs d a p7 X.length c7).toArray 46)).down (b' := w6.heap.size) (by omega))
            have hF4 : ∀ off, p7 ≠ some ⟨w7.heap.size, off, none⟩ := fun off e => by have := (hown7.at e).2.1; omega
            have HF4 := Lib.hid hF4
            clear h38 hone hS7 hown7 hb7 hF4
            go_wp2
            refine NoPanic.normal ?_
            go_wp2
            go_meet
            exact ⟨_, _, _, rfl, by omega, hF1, hF2, hF3, HF4.out⟩
          · intro K hK
            refine wp_allocZ _ 46 rfl _ HZO.out ?_
            have hS7 := HSA.out.alloc (by omega) (.cells (Value.agg (zeroOp.cs none 0).toArray).cells 46)
            refine hK _ _ hS7 ?_
            clear hK K
            obtain ⟨w7, hw7⟩ : ∃ w7, w7 = wA.alloc (.cells (Value.agg (zeroOp.cs none 0).toArray).cells 46) := ⟨_, rfl⟩
            rw [← hw7] at hS7 ⊢
            have hr7 : w7.heap[wA.heap.size]? = some (.cells (zeroOp.cs none 0).toArray 46 (0, 0)) := by rw [hw7]; exact (MapKept.heap_alloc _ _).1
            have hz7 : wA.heap.size < w7.heap.size := by rw [hw7]; simp
            have HR7 := Lib.hid hr7
            have HS7 := Lib.hid hS7
            clear hw7 hr7 hS7
            go_simp
            refine Till.act 3 rfl rfl (by kernel_rfl) rfl ?_
            intro K hK
            go_wp2_with (go_at_call 88; refine (HHD.out w7 (HH6.out.below HS7.out hN6a)).mono ?_; rintro e w8 ⟨v7, rfl, hown7, hb8⟩; obtain ⟨p7, c7, rfl⟩ := hown7.form)
            have hz8 := hb8.size
            have hS8 := HS7.out.trans (hb8.mono (by omega))
            refine hK _ _ hS8 ?_
            clear hK K
            refine Till.val 4 (.agg (opCs d a p7 X.length c7).toArray) rfl rfl (by kernel_rfl) (NoPanic.noFrame _) hS8 (fun w' => exec_buildOp _ _ _ rfl HD.out a p7 X.length c7 (by rfl) (by rfl) (by rfl) w') ?_
            go_simp
            refine Till.tail _ rfl rfl (by kernel_rfl) (by kernel_rfl) ?_
            have h38 : (opCs d a p7 X.length c7).length = 38 := OpV.cs_length HOK0.out p7 c7
            have hone : ∀ u ∈ opCs d a p7 X.length c7, u.oneCell' = true := OpV.cs_one (⟨d, a, 0, X⟩ : OpV) p7 c7
            refine wpList_storeRow rfl 46 _ _ rfl ((hb8.block _ hz7).trans HR7.out) (by rfl) (opCs d a p7 X.length c7).toArray (by rfl) (by rw [opInfo, List.size_toArray, h38]) (show 38 = (opCs d a p7 X.length c7).toArray.size by rw [List.size_toArray, h38]) (by simpa using hone) ?_
            intro w9 hw9 hg9 hs9
            have hF1 := Lib.hid hw9
            have hF2 := Lib.hid ((hS8.mono hN6a).grown hg9 (by omega) (fun k e => by have := Option.some.inj e; omega))
            have hF3 := Lib.hid ((hown7.keep (w' := w9) (fun g hg => by
              have h1 := hown7.lt hg
              exact hg9.block g h1.2 (fun e => by have := Option.some.inj e; omega))).down (b' := w6.heap.size) (by omega))
            have hF4 : ∀ off, p7 ≠ some ⟨wA.heap.size, off, none⟩ := fun off e => by have := (hown7.at e).1; omega
            have HF4 := Lib.hid hF4
            clear h38 hone hS8 hown7 hb8 hF4 hw9 hg9
            go_wp2
            refine NoPanic.normal ?_
            go_wp2
            go_meet
            exact ⟨_, _, _, rfl, by omega, hF1, hF2, hF3, HF4.out⟩
        case rest =>
          obtain ⟨k, p2, c2, rfl, hk, HR3, HB3, HO3, hpk⟩ := hcut
          have HR3b := Lib.hid (show wc.heap[k]? = some (.cells ((⟨d, a, 0, X⟩ : OpV).cs p2 c2).toArray 46 (0, 0)) from HR3.out)
          have hzc := HB3.out.size
          have HBc := Lib.hid (HB6.out.trans (HB3.out.mono (by omega)))
          have HDc := Lib.hid ((HB3.out.block _ (by omega)).trans HD6.out)
          have HHc := Lib.hid (HH6.out.under HB3.out)
          have HCAc := Lib.hid (show cellsAt wc k 0 ((⟨d, a, 0, X⟩ : OpV).cs p2 c2) from fun j u hj => by rw [cell_of_row _ _ _ _ _ _ HR3b.out, Nat.zero_add]; simpa using hj)
          have hkc := (Array.getElem?_eq_some_iff.1 HR3.out).1
          have h37 := (OpV.cs_at HOK0.out HCAc.out).2.2
          by_cases h3 : 32 < X.length
          · have d4 : decide ((X.length : Int) > 32) = true := by simp; omega
            have h3' : (X.length : Int) > 32 := by omega
            have d5 : decide ((32 : Int) < X.length) = true := by simp; omega
            have HNX := Lib.hid (show nextD S a d = (zeroOp, 3) by
              unfold nextD
              rw [if_neg HCOND.out, if_pos (by rw [← HXS.out]; exact h3)])
            go_wp2_with (first
              | (refine wpList_loadAgg _ rfl 44 _ rfl _ Tryz.underlying44 rfl w.heap.size 0 (by rfl) d.cs (by rw [draftInfo, HCD.out]) HC1.out ?_)
              | (go_at_call 87; refine HCG.out.mono ?_; rintro e w6 ⟨rfl, hb6⟩)
              | (refine wpList_buildZ _ rfl 46 rfl _ (build_op _) ?_)
              | (refine wpList_storeRow rfl 46 _ _ rfl (HDc.out) (by rfl) (zeroOp.cs none 0).toArray (by rfl) (by rw [opInfo]; rfl) (by rfl) (by simpa using OpV.cs_one zeroOp none 0) ?_; intro w7 hw7 hg7 hs7))
            have hcf : cellsAt w7 (w.heap.size + 1) 0 (zeroOp.cs none 0) := fun j u hj => by rw [cell_of_row _ _ _ _ _ _ hw7, Nat.zero_add]; simpa using hj
            have hbf : Below w.heap.size w w7 := (HBc.out).grown hg7 (by omega) (fun k e => by have := Option.some.inj e; omega)
            refine bodyPost_ret (results_cell_tmp rfl (by rfl) (run_loadAgg Tryz.underlying46 rfl (by rw [opInfo]; rfl) hcf)) rfl ⟨hbf, none, 0, by rw [HNX.out]; rfl, by rw [HNX.out]; exact Owns.nil _ _ _ _⟩
          · have d4 : decide ((X.length : Int) > 32) = false := by simp; omega
            have h3' : ¬ (X.length : Int) > 32 := by omega
            have d5 : decide ((32 : Int) < X.length) = false := by simp; omega
            obtain ⟨DD, hDD⟩ : ∃ DD, DD = depthOf (O.map E3.ent) (⟨d, a, 0, X⟩ : OpV) := ⟨_, rfl⟩
            have hcl := rdepth_any b vo vw vn vm F B O W (⟨d, a, 0, X⟩ : OpV) HOK0.out p2 c2 wc HHc.out (by omega) HO3.out.srcOf HWH.out
            rw [← hDD] at hcl
            have HCL := Lib.hid hcl
            have HDD := Lib.hid hDD
            clear hcl hDD
            go_upto_region 7 with (first
              | (refine wpList_loadAgg _ rfl 46 _ rfl _ Tryz.underlying46 rfl k 0 (by rfl) ((⟨d, a, 0, X⟩ : OpV).cs p2 c2) (by rw [opInfo, OpV.cs_length HOK0.out]) HCAc.out ?_)
              | (go_at_call 68; refine HCL.out.mono ?_; rintro e w4 ⟨rfl, hb4⟩; have hz4 := hb4.size; have hr4 := (hb4.block _ hkc).trans HR3b.out; have hc4 := (OpV.cs_at HOK0.out (show cellsAt w4 k 0 ((⟨d, a, 0, X⟩ : OpV).cs p2 c2) from fun j u hj => by rw [cell_of_row _ _ _ _ _ _ hr4, Nat.zero_add]; simpa using hj)).2.1; have hf4 : w4.frozen? ⟨k, 36, none⟩ = false := by simp [World.frozen?, hr4]))
            obtain ⟨w5, hw5⟩ : ∃ w5, w5 = w4.setCell ⟨k, 36, none⟩ (.int .i64 DD) := ⟨_, rfl⟩
            have hg5 : w4.grownBy w5 (some k) := by rw [hw5]; exact grownBy_set _ _ _ _
            have hr5 : w5.heap[k]? = some (.cells ((⟨d, a, DD, X⟩ : OpV).cs p2 c2).toArray 46 (0, 0)) := by
              rw [hw5, setCell_eq_setRow w4 k 36 _ _ (0, 0) _ hr4, setRow_heap w4 k _ _ _ (0, 0) hr4, OpV.cs_depth HOK0.out]
            rw [← hw5]
            have hz5 := hg5.size
            have HB5 := Lib.hid ((HBc.out.trans (hb4.mono (by omega))).grown hg5 (by omega) (fun j e => by have := Option.some.inj e; omega))
            have HD5 := Lib.hid ((hg5.block (w.heap.size + 1) (by omega) (fun e => by have := Option.some.inj e; omega)).trans ((hb4.block _ (by omega)).trans HDc.out))
            have hne : ∀ off, p2 ≠ some ⟨k, off, none⟩ := hpk
            have HO5 := Lib.hid ((HO3.out.under hb4).keep (w' := w5) (fun g hg => by
              have h1 := (HO3.out.lt hg).2
              refine hg5.block g (by omega) (fun e => ?_)
              have e' : k = g := (Option.some.inj e).symm
              rw [← e'] at hg
              cases p2 with
              | none => simp [Value.ownBlock] at hg
              | some q =>
                obtain ⟨qb, qo, qs⟩ := q
                have hsp := HO3.out.spot ⟨qb, qo, qs⟩ rfl
                simp only at hsp
                subst hsp
                have hqb : qb = k := by simpa [Value.ownBlock] using hg
                subst hqb
                exact hne qo rfl))
            have HL5 := Lib.hid (show ((⟨d, a, DD, X⟩ : OpV).cs p2 c2).length = 38 by simp [OpV.cs, HCD.out])
            have HCA5 := Lib.hid (show cellsAt w5 k 0 ((⟨d, a, DD, X⟩ : OpV).cs p2 c2) from fun j u hj => by rw [cell_of_row _ _ _ _ _ _ hr5, Nat.zero_add]; simpa using hj)
            have HNX := Lib.hid (show nextD S a d = (⟨d, a, DD, X⟩, 0) by
              unfold nextD
              rw [if_neg HCOND.out, if_neg (by rw [← HXS.out]; exact h3), ← HXS.out, HDD.out, HSS.out])
            clear hw5 hg5 hr5 hr4 hc4 hf4 hb4
            go_wp2_with (first
              | (refine wpList_loadAgg _ rfl 46 _ rfl _ Tryz.underlying46 rfl k 0 (by rfl) ((⟨d, a, DD, X⟩ : OpV).cs p2 c2) (by rw [opInfo, HL5.out]) HCA5.out ?_)
              | (refine wpList_storeRow rfl 46 _ _ rfl HD5.out (by rfl) ((⟨d, a, DD, X⟩ : OpV).cs p2 c2).toArray (by rfl) (by rw [opInfo, List.size_toArray, HL5.out]) (show 38 = ((⟨d, a, DD, X⟩ : OpV).cs p2 c2).toArray.size by rw [List.size_toArray, HL5.out]) (by simpa using OpV.cs_one (⟨d, a, DD, X⟩ : OpV) p2 c2) ?_; intro w7 hw7 hg7 hs7))
            have hcf : cellsAt w7 (w.heap.size + 1) 0 ((⟨d, a, DD, X⟩ : OpV).cs p2 c2) := fun j u hj => by rw [cell_of_row _ _ _ _ _ _ hw7, Nat.zero_add]; simpa using hj
            have hbf : Below w.heap.size w w7 := (HB5.out).grown hg7 (by omega) (fun k e => by have := Option.some.inj e; omega)
            have ho7 := (HO5.out).keep (w' := w7) (fun g hg => by
              have h1 := HO5.out.lt hg
              exact hg7.block g (by omega) (fun e => by have := Option.some.inj e; omega))
            refine bodyPost_ret (results_cell_tmp rfl (by rfl) (run_loadAgg Tryz.underlying46 rfl (by rw [opInfo, HL5.out]) hcf)) rfl ⟨hbf, p2, c2, by rw [HNX.out]; rfl, by rw [HNX.out]; exact ho7.down (by omega)⟩
end Go.Proofs.YtfoifdhcelcgiaaGreatDoor

/- tribunalref10.Set while it changes: its four rows one by one. -/
namespace Go.Proofs.YtfoifdhcelcgiaaGreatDoor
open Go Go.RowKit

theorem Owns.neT {w : World} {base : Nat} {e t : TypeId} {size n g : Nat} {v : Value} {xs : List Value} {cs : Array Value} {fz : Nat × Nat} (h : Owns w base e size v n xs) (hb : w.heap[g]? = some (.cells cs t fz)) (hne : e ≠ t) : v.ownBlock ≠ some g := fun hg => by
  rcases h.2 with ⟨rfl, _⟩ | ⟨g', cap, cur, fz', rfl, h1, h2, _⟩
  · cases hg
  · simp only [Value.ownBlock, Option.some.injEq] at hg
    subst hg
    rw [hb] at h2
    cases h2
    exact hne rfl

/-- the rows of names stand by themselves -/
structure RefRaw (w : World) (b : Nat) (vo vw vn vm : Value) (F B : Nat → Prop) (O W : List E3) (N M : List Nm) : Prop where
  box : w.heap[b]? = some (.cells #[vo, vw, vn, vm] 37 (0, 0))
  ops : Owns w 0 46 38 vo O.length (ocs O)
  wait : Owns w 0 46 38 vw W.length (ocs W)
  names : Owns w 0 31 32 vn N.length (pcs N)
  waits : Owns w 0 31 32 vm M.length (pcs M)
  okO : ∀ e ∈ O, e.Ok w B
  okW : ∀ e ∈ W, e.Ok w B
  n32 : ∀ x ∈ N, x.length = 32
  m32 : ∀ x ∈ M, x.length = 32
  fb : F b
  fo : ∀ g, vo.ownBlock = some g → F g
  fw : ∀ g, vw.ownBlock = some g → F g
  fn : ∀ g, vn.ownBlock = some g → F g
  fm : ∀ g, vm.ownBlock = some g → F g
  apart : ∀ i, F i → ¬ B i
  flt : ∀ i, F i → i < w.heap.size
  blt : ∀ i, B i → i < w.heap.size
  ow : ∀ g, vo.ownBlock = some g → vw.ownBlock ≠ some g
  nm : ∀ g, vn.ownBlock = some g → vm.ownBlock ≠ some g

section
variable {w w' : World} {b : Nat} {vo vw vn vm v : Value} {F B : Nat → Prop} {O W : List E3} {N M : List Nm}
theorem RefSet.raw (h : RefSet w b vo vw vn vm F B O W) : RefRaw w b vo vw vn vm F B O W (O.map (·.n)) (W.map (·.n)) :=
  ⟨h.box, h.ops, h.wait, by simpa [ncs] using h.names, by simpa [ncs] using h.waits, h.okO, h.okW, h.n32, h.m32, h.fb, h.fo, h.fw, h.fn, h.fm, h.apart, h.flt, h.blt, h.ow, h.nm⟩
theorem RefRaw.set (h : RefRaw w b vo vw vn vm F B O W (O.map (·.n)) (W.map (·.n))) : RefSet w b vo vw vn vm F B O W :=
  ⟨h.box, h.ops, h.wait, by simpa [ncs] using h.names, by simpa [ncs] using h.waits, h.okO, h.okW, h.fb, h.fo, h.fw, h.fn, h.fm, h.apart, h.flt, h.blt, h.ow, h.nm⟩
theorem RefRaw.keeps (h : RefRaw w b vo vw vn vm F B O W N M) (hs : w.heap.size ≤ w'.heap.size) (hb : ∀ i, i < w.heap.size → F i ∨ B i → w'.heap[i]? = w.heap[i]?) : RefRaw w' b vo vw vn vm F B O W N M :=
  ⟨(hb b (h.flt b h.fb) (.inl h.fb)).trans h.box, h.ops.keep (fun g hg => hb g (h.ops.lt hg).2 (.inl (h.fo g hg))), h.wait.keep (fun g hg => hb g (h.wait.lt hg).2 (.inl (h.fw g hg))),
    h.names.keep (fun g hg => hb g (h.names.lt hg).2 (.inl (h.fn g hg))), h.waits.keep (fun g hg => hb g (h.waits.lt hg).2 (.inl (h.fm g hg))),
    fun e he => (h.okO e he).keeps hs (fun i hi hB => hb i hi (.inr hB)), fun e he => (h.okW e he).keeps hs (fun i hi hB => hb i hi (.inr hB)), h.n32, h.m32,
    h.fb, h.fo, h.fw, h.fn, h.fm, h.apart, fun i hi => Nat.lt_of_lt_of_le (h.flt i hi) hs, fun i hi => Nat.lt_of_lt_of_le (h.blt i hi) hs, h.ow, h.nm⟩
theorem RefRaw.under (h : RefRaw w b vo vw vn vm F B O W N M) (hb : Below w.heap.size w w') : RefRaw w' b vo vw vn vm F B O W N M := h.keeps hb.size (fun i hi _ => hb.block i hi)
theorem RefRaw.below {K : Nat} (h : RefRaw w b vo vw vn vm F B O W N M) (hb : Below K w w') (hN : w.heap.size ≤ K) : RefRaw w' b vo vw vn vm F B O W N M := h.keeps hb.size (fun i hi _ => hb.block i (by omega))
theorem RefRaw.lt (h : RefRaw w b vo vw vn vm F B O W N M) : b < w.heap.size := h.flt b h.fb
theorem RefRaw.c0 (h : RefRaw w b vo vw vn vm F B O W N M) : w.cell? ⟨b, 0, none⟩ = some vo := by simp [World.cell?, h.box]
theorem RefRaw.c1 (h : RefRaw w b vo vw vn vm F B O W N M) : w.cell? ⟨b, 1, none⟩ = some vw := by simp [World.cell?, h.box]
theorem RefRaw.c2 (h : RefRaw w b vo vw vn vm F B O W N M) : w.cell? ⟨b, 2, none⟩ = some vn := by simp [World.cell?, h.box]
theorem RefRaw.c3 (h : RefRaw w b vo vw vn vm F B O W N M) : w.cell? ⟨b, 3, none⟩ = some vm := by simp [World.cell?, h.box]
theorem RefRaw.ne0 (h : RefRaw w b vo vw vn vm F B O W N M) : vo.ownBlock ≠ some b := h.ops.neT h.box (by decide)
theorem RefRaw.ne1 (h : RefRaw w b vo vw vn vm F B O W N M) : vw.ownBlock ≠ some b := h.wait.neT h.box (by decide)
theorem RefRaw.ne2 (h : RefRaw w b vo vw vn vm F B O W N M) : vn.ownBlock ≠ some b := h.names.neT h.box (by decide)
theorem RefRaw.ne3 (h : RefRaw w b vo vw vn vm F B O W N M) : vm.ownBlock ≠ some b := h.waits.neT h.box (by decide)
theorem owns_other {e e' : TypeId} {k k' n n' : Nat} {v v' : Value} {xs xs' : List Value} (h : Owns w 0 e k v n xs) (h' : Owns w 0 e' k' v' n' xs') (hne : e ≠ e') : ∀ g, v.ownBlock = some g → v'.ownBlock ≠ some g := fun g hg hg' => by
  rcases h.2 with ⟨rfl, _⟩ | ⟨g1, cap, cur, fz, rfl, h1, h2, _⟩
  · cases hg
  · have e1 : g1 = g := by simpa [Value.ownBlock] using hg
    subst e1
    exact h'.neT h2 (fun e => hne e.symm) hg'

/-- what S names is written, and the box: the row number f is another now -/
def withOwn (F : Nat → Prop) (v : Value) : Nat → Prop := fun i => F i ∨ v.ownBlock = some i
theorem RefRaw.ok' (h : RefRaw w b vo vw vn vm F B O W N M) {S : Nat → Prop} (hk : Keeps S w w') (hS : ∀ i, S i → F i) {l : List E3} (hl : ∀ e ∈ l, e ∈ O ∨ e ∈ W) : ∀ e ∈ l, e.Ok w' B := fun e he => by
  have h1 : e.Ok w B := (hl e he).elim (h.okO e) (h.okW e)
  exact h1.ok' hk (fun i off e1 hne e2 => h.apart i (hS i e2) (h1.at_ i off e1 hne))
theorem RefRaw.set1 (h : RefRaw w b vo vw vn vm F B O W N M) {S : Nat → Prop} {W' : List E3} (hk : Keeps S w w') (hS : ∀ i, S i → i = b ∨ vw.ownBlock = some i)
    (hbx : w'.heap[b]? = some (.cells #[vo, v, vn, vm] 37 (0, 0))) (ho : Owns w' 0 46 38 v W'.length (ocs W')) (hn : ∀ g, v.ownBlock = some g → vw.ownBlock = some g ∨ w.heap.size ≤ g) (hok : ∀ e ∈ W', e.Ok w' B) : RefRaw w' b vo v vn vm (withOwn F v) B O W' N M := by
  have hSF : ∀ i, S i → F i := fun i hi => (hS i hi).elim (fun e => e ▸ h.fb) (h.fw i)
  have n0 : ∀ g, vo.ownBlock = some g → ¬ S g := fun g hg hs => (hS g hs).elim (fun e => h.ne0 (e ▸ hg)) (h.ow g hg)
  have n2 : ∀ g, vn.ownBlock = some g → ¬ S g := fun g hg hs => (hS g hs).elim (fun e => h.ne2 (e ▸ hg)) (owns_other h.names h.wait (by decide) g hg)
  have n3 : ∀ g, vm.ownBlock = some g → ¬ S g := fun g hg hs => (hS g hs).elim (fun e => h.ne3 (e ▸ hg)) (owns_other h.waits h.wait (by decide) g hg)
  refine ⟨hbx, h.ops.keep (fun g hg => hk.block g (h.ops.lt hg).2 (n0 g hg)), ho, h.names.keep (fun g hg => hk.block g (h.names.lt hg).2 (n2 g hg)), h.waits.keep (fun g hg => hk.block g (h.waits.lt hg).2 (n3 g hg)), h.ok' hk hSF (fun e he => .inl he), hok, h.n32, h.m32,
    .inl h.fb, fun g hg => .inl (h.fo g hg), fun g hg => .inr hg, fun g hg => .inl (h.fn g hg), fun g hg => .inl (h.fm g hg), ?_, ?_, fun i hi => Nat.lt_of_lt_of_le (h.blt i hi) hk.size, ?_, h.nm⟩
  · rintro i (hi | hi) hB
    · exact h.apart i hi hB
    · rcases hn i hi with h1 | h1
      · exact h.apart i (h.fw i h1) hB
      · have := h.blt i hB; omega
  · rintro i (hi | hi)
    · exact Nat.lt_of_lt_of_le (h.flt i hi) hk.size
    · exact (ho.lt hi).2
  · intro g hg hg'
    rcases hn g hg' with h1 | h1
    · exact h.ow g hg h1
    · have := (h.ops.lt hg).2; omega
theorem RefRaw.set0 (h : RefRaw w b vo vw vn vm F B O W N M) {S : Nat → Prop} {O' : List E3} (hk : Keeps S w w') (hS : ∀ i, S i → i = b ∨ vo.ownBlock = some i)
    (hbx : w'.heap[b]? = some (.cells #[v, vw, vn, vm] 37 (0, 0))) (ho : Owns w' 0 46 38 v O'.length (ocs O')) (hn : ∀ g, v.ownBlock = some g → vo.ownBlock = some g ∨ w.heap.size ≤ g) (hok : ∀ e ∈ O', e.Ok w' B) : RefRaw w' b v vw vn vm (withOwn F v) B O' W N M := by
  have hSF : ∀ i, S i → F i := fun i hi => (hS i hi).elim (fun e => e ▸ h.fb) (h.fo i)
  have n1 : ∀ g, vw.ownBlock = some g → ¬ S g := fun g hg hs => (hS g hs).elim (fun e => h.ne1 (e ▸ hg)) (fun e => h.ow g e hg)
  have n2 : ∀ g, vn.ownBlock = some g → ¬ S g := fun g hg hs => (hS g hs).elim (fun e => h.ne2 (e ▸ hg)) (owns_other h.names h.ops (by decide) g hg)
  have n3 : ∀ g, vm.ownBlock = some g → ¬ S g := fun g hg hs => (hS g hs).elim (fun e => h.ne3 (e ▸ hg)) (owns_other h.waits h.ops (by decide) g hg)
  refine ⟨hbx, ho, h.wait.keep (fun g hg => hk.block g (h.wait.lt hg).2 (n1 g hg)), h.names.keep (fun g hg => hk.block g (h.names.lt hg).2 (n2 g hg)), h.waits.keep (fun g hg => hk.block g (h.waits.lt hg).2 (n3 g hg)), hok, h.ok' hk hSF (fun e he => .inr he), h.n32, h.m32,
    .inl h.fb, fun g hg => .inr hg, fun g hg => .inl (h.fw g hg), fun g hg => .inl (h.fn g hg), fun g hg => .inl (h.fm g hg), ?_, ?_, fun i hi => Nat.lt_of_lt_of_le (h.blt i hi) hk.size, ?_, h.nm⟩
  · rintro i (hi | hi) hB
    · exact h.apart i hi hB
    · rcases hn i hi with h1 | h1
      · exact h.apart i (h.fo i h1) hB
      · have := h.blt i hB; omega
  · rintro i (hi | hi)
    · exact Nat.lt_of_lt_of_le (h.flt i hi) hk.size
    · exact (ho.lt hi).2
  · intro g hg hg'
    rcases hn g hg with h1 | h1
    · exact h.ow g h1 hg'
    · have := (h.wait.lt hg').2; omega
theorem RefRaw.set2 (h : RefRaw w b vo vw vn vm F B O W N M) {S : Nat → Prop} {N' : List Nm} (hk : Keeps S w w') (hS : ∀ i, S i → i = b ∨ vn.ownBlock = some i)
    (hbx : w'.heap[b]? = some (.cells #[vo, vw, v, vm] 37 (0, 0))) (ho : Owns w' 0 31 32 v N'.length (pcs N')) (hn : ∀ g, v.ownBlock = some g → vn.ownBlock = some g ∨ w.heap.size ≤ g) (h32 : ∀ x ∈ N', x.length = 32) : RefRaw w' b vo vw v vm (withOwn F v) B O W N' M := by
  have hSF : ∀ i, S i → F i := fun i hi => (hS i hi).elim (fun e => e ▸ h.fb) (h.fn i)
  have n0 : ∀ g, vo.ownBlock = some g → ¬ S g := fun g hg hs => (hS g hs).elim (fun e => h.ne0 (e ▸ hg)) (owns_other h.ops h.names (by decide) g hg)
  have n1 : ∀ g, vw.ownBlock = some g → ¬ S g := fun g hg hs => (hS g hs).elim (fun e => h.ne1 (e ▸ hg)) (owns_other h.wait h.names (by decide) g hg)
  have n3 : ∀ g, vm.ownBlock = some g → ¬ S g := fun g hg hs => (hS g hs).elim (fun e => h.ne3 (e ▸ hg)) (fun e => h.nm g e hg)
  refine ⟨hbx, h.ops.keep (fun g hg => hk.block g (h.ops.lt hg).2 (n0 g hg)), h.wait.keep (fun g hg => hk.block g (h.wait.lt hg).2 (n1 g hg)), ho, h.waits.keep (fun g hg => hk.block g (h.waits.lt hg).2 (n3 g hg)), h.ok' hk hSF (fun e he => .inl he), h.ok' hk hSF (fun e he => .inr he), h32, h.m32,
    .inl h.fb, fun g hg => .inl (h.fo g hg), fun g hg => .inl (h.fw g hg), fun g hg => .inr hg, fun g hg => .inl (h.fm g hg), ?_, ?_, fun i hi => Nat.lt_of_lt_of_le (h.blt i hi) hk.size, h.ow, ?_⟩
  · rintro i (hi | hi) hB
    · exact h.apart i hi hB
    · rcases hn i hi with h1 | h1
      · exact h.apart i (h.fn i h1) hB
      · have := h.blt i hB; omega
  · rintro i (hi | hi)
    · exact Nat.lt_of_lt_of_le (h.flt i hi) hk.size
    · exact (ho.lt hi).2
  · intro g hg hg'
    rcases hn g hg with h1 | h1
    · exact h.nm g h1 hg'
    · have := (h.waits.lt hg').2; omega
theorem RefRaw.set3 (h : RefRaw w b vo vw vn vm F B O W N M) {S : Nat → Prop} {M' : List Nm} (hk : Keeps S w w') (hS : ∀ i, S i → i = b ∨ vm.ownBlock = some i)
    (hbx : w'.heap[b]? = some (.cells #[vo, vw, vn, v] 37 (0, 0))) (ho : Owns w' 0 31 32 v M'.length (pcs M')) (hn : ∀ g, v.ownBlock = some g → vm.ownBlock = some g ∨ w.heap.size ≤ g) (h32 : ∀ x ∈ M', x.length = 32) : RefRaw w' b vo vw vn v (withOwn F v) B O W N M' := by
  have hSF : ∀ i, S i → F i := fun i hi => (hS i hi).elim (fun e => e ▸ h.fb) (h.fm i)
  have n0 : ∀ g, vo.ownBlock = some g → ¬ S g := fun g hg hs => (hS g hs).elim (fun e => h.ne0 (e ▸ hg)) (owns_other h.ops h.waits (by decide) g hg)
  have n1 : ∀ g, vw.ownBlock = some g → ¬ S g := fun g hg hs => (hS g hs).elim (fun e => h.ne1 (e ▸ hg)) (owns_other h.wait h.waits (by decide) g hg)
  have n2 : ∀ g, vn.ownBlock = some g → ¬ S g := fun g hg hs => (hS g hs).elim (fun e => h.ne2 (e ▸ hg)) (h.nm g hg)
  refine ⟨hbx, h.ops.keep (fun g hg => hk.block g (h.ops.lt hg).2 (n0 g hg)), h.wait.keep (fun g hg => hk.block g (h.wait.lt hg).2 (n1 g hg)), h.names.keep (fun g hg => hk.block g (h.names.lt hg).2 (n2 g hg)), ho, h.ok' hk hSF (fun e he => .inl he), h.ok' hk hSF (fun e he => .inr he), h.n32, h32,
    .inl h.fb, fun g hg => .inl (h.fo g hg), fun g hg => .inl (h.fw g hg), fun g hg => .inl (h.fn g hg), fun g hg => .inr hg, ?_, ?_, fun i hi => Nat.lt_of_lt_of_le (h.blt i hi) hk.size, h.ow, ?_⟩
  · rintro i (hi | hi) hB
    · exact h.apart i hi hB
    · rcases hn i hi with h1 | h1
      · exact h.apart i (h.fm i h1) hB
      · have := h.blt i hB; omega
  · rintro i (hi | hi)
    · exact Nat.lt_of_lt_of_le (h.flt i hi) hk.size
    · exact (ho.lt hi).2
  · intro g hg hg'
    rcases hn g hg' with h1 | h1
    · exact h.nm g hg h1
    · have := (h.names.lt hg).2; omega
end
end Go.Proofs.YtfoifdhcelcgiaaGreatDoor

/- A row without one of its elements: append(append([]T{}, s[:i]...), s[i+1:]...), in regions that draw their order. -/
namespace Go.Proofs.YtfoifdhcelcgiaaGreatDoor
open Go Go.RowKit

def loP (p : Option Addr) (c k size : Nat) : Option Addr := if c = k then p else p.map (·.add (k * size))
theorem loP_spot {p : Option Addr} {c k size : Nat} (hp : ∀ a, p = some a → a.spot = none) : ∀ a, loP p c k size = some a → a.spot = none := by
  intro ad had
  unfold loP at had
  split at had
  · exact hp ad had
  · cases p with
    | none => cases had
    | some ad' =>
      obtain ⟨b', off', spot⟩ := ad'
      have hs : spot = none := hp _ rfl
      subst hs
      have hadd : (⟨b', off', none⟩ : Addr).add (k * size) = ⟨b', off' + k * size, none⟩ := by unfold Addr.add; split <;> simp_all
      simp only [Option.map_some, hadd, Option.some.injEq] at had
      rw [← had]
theorem loP_src {w : World} {p : Option Addr} {n c k size : Nat} {cs : List Value} (hk : k ≤ n) (hn : n ≤ c) (hl : cs.length = n * size) (hcs : SrcAt w p cs) (hp : ∀ a, p = some a → a.spot = none) : SrcAt w (loP p c k size) (cs.drop (k * size)) := by
  unfold loP
  split
  · rename_i hck
    have : cs.drop (k * size) = [] := List.eq_nil_of_length_eq_zero (by rw [List.length_drop, hl, show n = k by omega]; omega)
    rw [this]
    exact SrcAt.nil _ _
  · cases p with
    | none =>
      have : cs = [] := by
        cases cs with
        | nil => rfl
        | cons u cs => obtain ⟨b, off, h, _⟩ := hcs 0 u rfl; cases h
      rw [this]
      simp only [List.drop_nil]
      exact SrcAt.nil _ _
    | some ad =>
      obtain ⟨b, off, spot⟩ := ad
      have : spot = none := hp _ rfl
      subst this
      have hadd : (⟨b, off, none⟩ : Addr).add (k * size) = ⟨b, off + k * size, none⟩ := by unfold Addr.add; split <;> simp_all
      simp only [Option.map_some, hadd]
      exact hcs.drop _

section
variable {P : Program} {w : World} {o : Oper} {a : Act} {Q : Exit → Act → World → Prop} {K : Act → World → Prop} {S : World → Prop} {md : Region.Mode} {n : Nat} {ops : Array Oper}
theorem run_buildNil {t e : TypeId} {n : Nat} (ht : P.underlying t = some (.slice e)) (hi : (P.info? e).map (·.size) = some n) :
    (Instr.buildSlice t 0 #[]).run P w = .ok (.slice (some ⟨w.heap.size, 0, none⟩) 0 0) (w.alloc (.cells #[] e)) := by
  unfold Instr.buildSlice
  simp only [Sem.run_bind, run_underlying ht, Result.andThen_ok, sizeOf_of hi]
  rw [if_neg (by simp), if_pos (by simp)]
  have hf : Instr.fill (fun i => some (i * n, n)) ((Array.range 0).map fun x => (#[] : Array Value)[x % (#[] : Array Value).size]!) [] = some #[] := by simp [Instr.fill]
  simp only [Sem.run_bind, Result.andThen_ok, Sem.run_pure, Nat.zero_mul, hf]
  rfl
theorem wp_buildNil (t : TypeId) (hop : o.op = .buildSlice t 0 #[]) (e : TypeId) (n : Nat) (ht : P.underlying t = some (.slice e)) (hi : (P.info? e).map (·.size) = some n)
    (h : K (a.put o.dst (.slice (some ⟨w.heap.size, 0, none⟩) 0 0)) (w.alloc (.cells #[] e))) : o.wp P a w K Q := by
  have hr := run_buildNil (w := w) ht hi
  refine wp_run w ?_ h
  unfold execOp
  simp only [hop, List.map_toArray, List.map_nil, Sem.run_bind, hr, Result.andThen_ok, Sem.run_pure]
theorem Owns.newNil (w : World) (base : Nat) (e : TypeId) (size : Nat) (hb : base ≤ w.heap.size) : Owns (w.alloc (.cells #[] e)) base e size (.slice (some ⟨w.heap.size, 0, none⟩) 0 0) 0 [] :=
  ⟨by simp, .inr ⟨w.heap.size, 0, #[], (0, 0), rfl, hb, (MapKept.heap_alloc _ _).1, ⟨.inl (Nat.zero_le _), fun _ => rfl⟩, Nat.le_refl _, by unfold maxLen; omega, by simp, by simp⟩⟩
/-- a[:k] -/
theorem Till.hi (i : Nat) {fuel : Nat} {oi : Oper} {listed : Array Bool} (t : TypeId) (x y : Operand) {rest : List Oper} (hi0 : ops.toList.drop i = oi :: rest) (hop : oi.op = .slice t x none (some y) none) (hw : Region.wanted oi (yielded ops a.tmps) = true)
    (e : TypeId) (size : Nat) (ht : P.underlying t = some (.slice e)) (hi : (P.info? e).map (·.size) = some size) (p : Option Addr) (m c k : Nat) (kk : IntKind) (hx : a.eval x = .slice p m c) (hy : a.eval y = .int kk k) (hk : k ≤ c) (hp : ∀ a, p = some a → a.spot = none)
    (hB : mayB md ops n i listed = true) (hQ : NoFrame Q) (hS : S w)
    (h : Till P md ops Q S n fuel (listed.setIfInBounds i true) (a.put oi.dst (.slice p k c)) w) : Till P md ops Q S n (fuel + 1) listed a w :=
  Till.take (v := .slice p k c) (at_drop hi0) hB hQ hS (.inl ⟨hw, fun w' _ => by
    have he : P.elem t = e := by simp [Program.elem, ht]
    have ht' : P.underlying t = some (.slice (P.elem t)) := by rw [he]; exact ht
    have hA : (if c = 0 then p else p.map (·.add (0 * size))) = p := by
      split
      · rfl
      · cases p with
        | none => rfl
        | some q => simp [Addr.add]
    unfold execOp
    simp only [hop, hx, hy, Option.map_some, Option.map_none, Sem.run_bind, Sem.run_pure, run_sliceAt_slice w' t _ _ _ _ ht', run_slice_h w' t p m c ht' kk k (by omega) (by omega), he, run_sizeOf hi, Result.andThen_ok, sliced, Int.toNat_natCast, hA, Nat.sub_zero]⟩) h
/-- a[k:] -/
theorem Till.lo (i : Nat) {fuel : Nat} {oi : Oper} {listed : Array Bool} (t : TypeId) (x y : Operand) {rest : List Oper} (hi0 : ops.toList.drop i = oi :: rest) (hop : oi.op = .slice t x (some y) none none) (hw : Region.wanted oi (yielded ops a.tmps) = true)
    (e : TypeId) (size : Nat) (ht : P.underlying t = some (.slice e)) (hi : (P.info? e).map (·.size) = some size) (p : Option Addr) (m c k : Nat) (kk : IntKind) (j : Int) (hj : j = (k : Int)) (hx : a.eval x = .slice p m c) (hy : a.eval y = .int kk j) (hk : k ≤ m)
    (hB : mayB md ops n i listed = true) (hQ : NoFrame Q) (hS : S w)
    (h : Till P md ops Q S n fuel (listed.setIfInBounds i true) (a.put oi.dst (.slice (loP p c k size) (m - k) (c - k))) w) : Till P md ops Q S n (fuel + 1) listed a w :=
  Till.take (v := .slice (loP p c k size) (m - k) (c - k)) (at_drop hi0) hB hQ hS (.inl ⟨hw, fun w' _ => by
    subst hj
    have he : P.elem t = e := by simp [Program.elem, ht]
    have ht' : P.underlying t = some (.slice (P.elem t)) := by rw [he]; exact ht
    unfold execOp
    simp only [hop, hx, hy, Option.map_some, Option.map_none, Sem.run_bind, Sem.run_pure, run_sliceAt_slice w' t _ _ _ _ ht', run_slice_l w' t p m c ht' kk k (by omega) (by omega), he, run_sizeOf hi, Result.andThen_ok, sliced, Int.toNat_natCast]
    rfl⟩) h
end

theorem flat_take {α β : Type} {f : α → List β} {s : Nat} : ∀ {l : List α}, (∀ x ∈ l, (f x).length = s) → ∀ k, (l.flatMap f).take (k * s) = (l.take k).flatMap f
  | [], _, k => by simp
  | a :: r, h, 0 => by simp
  | a :: r, h, k + 1 => by
    have ha : (f a).length = s := h a (by simp)
    have e1 : (k + 1) * s - s = k * s := by rw [Nat.add_mul, Nat.one_mul]; omega
    have e2 : s ≤ (k + 1) * s := by rw [Nat.add_mul, Nat.one_mul]; omega
    simp only [List.flatMap_cons, List.take_succ_cons]
    rw [List.take_append, ha, List.take_of_length_le (by omega), e1, flat_take (fun x hx => h x (by simp [hx])) k]
theorem flat_drop {α β : Type} {f : α → List β} {s : Nat} : ∀ {l : List α}, (∀ x ∈ l, (f x).length = s) → ∀ k, (l.flatMap f).drop (k * s) = (l.drop k).flatMap f
  | [], _, k => by simp
  | a :: r, h, 0 => by simp
  | a :: r, h, k + 1 => by
    have ha : (f a).length = s := h a (by simp)
    have e1 : (k + 1) * s - s = k * s := by rw [Nat.add_mul, Nat.one_mul]; omega
    have e2 : s ≤ (k + 1) * s := by rw [Nat.add_mul, Nat.one_mul]; omega
    simp only [List.flatMap_cons, List.drop_succ_cons]
    rw [List.drop_append, ha, List.drop_eq_nil_of_le (by omega), e1, flat_drop (fun x hx => h x (by simp [hx])) k, List.nil_append]
theorem flat_erase {α β : Type} {f : α → List β} {s : Nat} {l : List α} (h : ∀ x ∈ l, (f x).length = s) (i : Nat) : (l.flatMap f).take (i * s) ++ (l.flatMap f).drop ((i + 1) * s) = (l.eraseIdx i).flatMap f := by
  rw [flat_take h, flat_drop h, List.eraseIdx_eq_take_drop_succ, List.flatMap_append]
theorem erase_map {α β : Type} (f : α → β) (l : List α) (i : Nat) : (l.map f).eraseIdx i = (l.eraseIdx i).map f := by
  rw [List.eraseIdx_eq_take_drop_succ, List.eraseIdx_eq_take_drop_succ, List.map_append, List.map_take, List.map_drop]
theorem flat_len {α β : Type} {f : α → List β} {s : Nat} {l : List α} (h : ∀ x ∈ l, (f x).length = s) : (l.flatMap f).length = l.length * s := by
  induction l with
  | nil => simp
  | cons a r ih => rw [List.flatMap_cons, List.length_append, h a (by simp), ih (fun x hx => h x (by simp [hx])), List.length_cons, Nat.add_mul]; omega
end Go.Proofs.YtfoifdhcelcgiaaGreatDoor
