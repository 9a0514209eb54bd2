/-
  (*sha.state).mix: a block of 64 bytes is taken in.
-/
import Derived.Test.YtfoifdhcelcgiaaGreatDoorJa
import Derived.Deep.QuietTactic
import Derived.BigRegion
import Derived.IntWalk
import Derived.StillTailTactics
namespace Go.Proofs.YtfoifdhcelcgiaaGreatDoor
open Go Go.RowKit

theorem zeroW : (Tryz.prog.info? 162).map (fun i => (i.zero, i.size)) = some (some (.agg (fillA [] 64)), 64) := by kernel_rfl

theorem stateInfo : (Tryz.prog.info? 155).map (fun i => (i.zero.map (·.cells.size), i.size)) = some (some 8, 8) := by kernel_rfl

/-- the table of the rounds, and the start -/
def Tabs (w : World) : Prop := (∀ i, i < 64 → w.cell? ⟨2, i, none⟩ = some (vw (KT.getD i 0))) ∧ cellsAt w 1 0 H0.cs ∧ 3 ≤ w.heap.size

theorem Tabs.of_below {w w' : World} {B : Nat} (h : Tabs w) (hb : Below B w w') (hB : 3 ≤ B) : Tabs w' :=
  ⟨fun i hi => (hb.cell (p := ⟨2, i, none⟩) (by show 2 < B; omega)).trans (h.1 i hi), h.2.1.of_block (hb.block _ (by omega)), by have := hb.size; have := h.2.2; omega⟩

set_option maxRecDepth 100000 in
set_option maxHeartbeats 1000000 in
theorem mix_any (hb pb off cap : Nat) (p : List UInt8) (s : St) (w : World) (hh : w.heap[hb]? = some (.cells s.cs.toArray 155 (0, 0))) (hp : SrcAt w (some ⟨pb, off, none⟩) (bcs p)) (hpb : pb < w.heap.size) (hl : p.length = 64) (hT : Tabs w) :
    Calls Tryz.prog 128 #[.pointer (some ⟨hb, 0, none⟩), .slice (some ⟨pb, off, none⟩) 64 cap] w fun e w' => e = .returned (.tuple #[]) ∧ w'.heap[hb]? = some (.cells (mixS p s).cs.toArray 155 (0, 0)) ∧ w.grownBy w' (some hb) := by
  have HH := Lib.hid hh
  have HP := Lib.hid hp
  have HL := Lib.hid hl
  have HT := Lib.hid hT
  obtain ⟨i0, hi, hz0, hz1⟩ : ∃ i0, Tryz.prog.info? 162 = some i0 ∧ i0.zero = some (.agg (fillA [] 64)) ∧ i0.size = 64 := by
    have h := zeroW
    cases hq : Tryz.prog.info? 162 with
    | none => simp [hq] at h
    | some i => rw [hq] at h; simp at h; exact ⟨i, rfl, h.1, h.2⟩
  have hzz : ∀ w, (zeroValue 162).run Tryz.prog w = .ok (.agg (fillA [] 64)) w := fun w => by simp [zeroValue, typeInfo, hi, hz0]
  have HZ := Lib.hid hzz
  clear hh hp hl hT hi hz0 hz1 hzz
  go_enter Tryz.func128, Tryz.ntmps128
  go_wp2_with (first | (refine wpList_allocZ _ rfl 162 rfl _ HZ.out ?_))
  have hf0 : Filled (w.alloc (.cells (Value.agg (fillA [] 64)).cells 162)) w.heap.size 162 (sched p 0) 64 := ⟨by simp [sched], (MapKept.heap_alloc _ _).1⟩
  have HF := Lib.hid hf0
  clear hf0
  go_loopw [15] (fun i wr => ∃ n : Nat, n ≤ 64 ∧ i = .int .i64 n ∧ Filled wr w.heap.size 162 (sched p n) 64 ∧ Below w.heap.size w wr) (fun i _ => 64 - (intOf i).toNat)
  case atStart => exact ⟨0, by omega, rfl, HF.out, (Below.refl _ w).alloc (Nat.le_refl _) _⟩
  case round =>
    obtain ⟨n, hn, rfl, hf, hbr⟩ := hrel
    have hlen := length_sched p n
    by_cases hlt : n < 64
    · by_cases h16 : n < 16
      · obtain ⟨c0, hc0, -, g0⟩ := byte_at (l := p) (j := 4 * n) (by rw [HL.out]; omega)
        obtain ⟨c1, hc1, -, g1⟩ := byte_at (l := p) (j := 4 * n + 1) (by rw [HL.out]; omega)
        obtain ⟨c2, hc2, -, g2⟩ := byte_at (l := p) (j := 4 * n + 2) (by rw [HL.out]; omega)
        obtain ⟨c3, hc3, -, g3⟩ := byte_at (l := p) (j := 4 * n + 3) (by rw [HL.out]; omega)
        have hcell : ∀ j c, (bcs p)[j]? = some (bv c) → wr.cell? ⟨pb, off + j, none⟩ = some (.int .u8 c.toNat) := fun j c hj => by
          obtain ⟨b', o', e, hc⟩ := HP.out j _ hj
          cases e
          exact (hbr.cell (p := ⟨pb, off + j, none⟩) hpb).trans hc
        obtain ⟨m0, e0⟩ : ∃ m : Nat, m = 4 * n := ⟨_, rfl⟩
        obtain ⟨m1, e1⟩ : ∃ m : Nat, m = 4 * n + 1 := ⟨_, rfl⟩
        obtain ⟨m2, e2⟩ : ∃ m : Nat, m = 4 * n + 2 := ⟨_, rfl⟩
        obtain ⟨m3, e3⟩ : ∃ m : Nat, m = 4 * n + 3 := ⟨_, rfl⟩
        rw [← e0] at hc0
        rw [← e1] at hc1
        rw [← e2] at hc2
        rw [← e3] at hc3
        have k0 := hcell _ _ hc0
        have k1 := hcell _ _ hc1
        have k2 := hcell _ _ hc2
        have k3 := hcell _ _ hc3
        have s0 : IntKind.i64.wrap (4 * (n : Int)) = m0 := by rw [IntWalk.i64_in _ (by omega)]; omega
        have s1 : IntKind.i64.wrap ((m0 : Int) + 1) = m1 := by rw [IntWalk.i64_in _ (by omega)]; omega
        have s2 : IntKind.i64.wrap ((m0 : Int) + 2) = m2 := by rw [IntWalk.i64_in _ (by omega)]; omega
        have s3 : IntKind.i64.wrap ((m0 : Int) + 3) = m3 := by rw [IntWalk.i64_in _ (by omega)]; omega
        have b0 : (m0 : Int) < 64 := by omega
        have b1 : (m1 : Int) < 64 := by omega
        have b2 : (m2 : Int) < 64 := by omega
        have b3 : (m3 : Int) < 64 := by omega
        obtain ⟨⟨z, hz⟩, hfr⟩ := hf.free hlt
        have hpush := hf.push (by omega) (ldw c0 c1 c2 c3)
        have hs : sched p (n + 1) = sched p n ++ [ldw c0 c1 c2 c3] := by
          rw [sched, if_pos h16]
          unfold ldAt
          rw [List.getD_eq_getElem?_getD, List.getD_eq_getElem?_getD, List.getD_eq_getElem?_getD, List.getD_eq_getElem?_getD, g0, g1, g2, g3]
          rfl
        rw [← hs, hlen] at hpush
        have H1 := Lib.hid hpush
        have H2 := Lib.hid hbr
        have H3 := Lib.hid hf
        clear hc0 hc1 hc2 hc3 g0 g1 g2 g3 hcell hpush hs hbr hf hlen e0 e1 e2 e3
        go_wp2
        refine wp_region_tail 35 (by kernel_rfl) (by kernel_rfl) ?_
        simp only [List.take_succ_cons, List.take_zero, List.drop_succ_cons, List.drop_zero]
        have R1 := w_u8
        have R2 := w_shl24
        have R3 := w_shl16
        have R4 := w_shl8
        have R5 := r_or
        repeat still_step
        refine wpStill_nil ?_
        clear R1 R2 R3 R4 R5
        go_wp2
        go_roundw
        case rel => exact ⟨n + 1, by omega, by go_num, H1.out, (H2.out.setCell (Nat.le_refl _) _).drew⟩
        case measure => simp [intOf] <;> omega
      · obtain ⟨ja, ea⟩ : ∃ m : Nat, m = n - 16 := ⟨_, rfl⟩
        obtain ⟨jb, eb⟩ : ∃ m : Nat, m = n - 7 := ⟨_, rfl⟩
        obtain ⟨jc, ec⟩ : ∃ m : Nat, m = n - 15 := ⟨_, rfl⟩
        obtain ⟨jd, ed⟩ : ∃ m : Nat, m = n - 2 := ⟨_, rfl⟩
        have k0 := hf.get (i := ja) (by omega)
        have k1 := hf.get (i := jb) (by omega)
        have k2 := hf.get (i := jc) (by omega)
        have k3 := hf.get (i := jd) (by omega)
        have s0 : IntKind.i64.wrap ((n : Int) - 16) = ja := by rw [IntWalk.i64_in _ (by omega)]; omega
        have s1 : IntKind.i64.wrap ((n : Int) - 7) = jb := by rw [IntWalk.i64_in _ (by omega)]; omega
        have s2 : IntKind.i64.wrap ((n : Int) - 15) = jc := by rw [IntWalk.i64_in _ (by omega)]; omega
        have s3 : IntKind.i64.wrap ((n : Int) - 2) = jd := by rw [IntWalk.i64_in _ (by omega)]; omega
        have b0 : (ja : Int) < 64 := by omega
        have b1 : (jb : Int) < 64 := by omega
        have b2 : (jc : Int) < 64 := by omega
        have b3 : (jd : Int) < 64 := by omega
        obtain ⟨⟨z, hz⟩, hfr⟩ := hf.free hlt
        obtain ⟨xa, ga⟩ : ∃ x, x = (sched p n).getD ja 0 := ⟨_, rfl⟩
        obtain ⟨xb, gb⟩ : ∃ x, x = (sched p n).getD jb 0 := ⟨_, rfl⟩
        obtain ⟨xc, gc⟩ : ∃ x, x = (sched p n).getD jc 0 := ⟨_, rfl⟩
        obtain ⟨xd, gd⟩ : ∃ x, x = (sched p n).getD jd 0 := ⟨_, rfl⟩
        rw [← ga] at k0
        rw [← gb] at k1
        rw [← gc] at k2
        rw [← gd] at k3
        have hpush := hf.push (by omega) (nxt xa xb xc xd)
        have hs : sched p (n + 1) = sched p n ++ [nxt xa xb xc xd] := by
          rw [sched, if_neg h16]
          unfold nxtAt
          rw [← ea, ← eb, ← ec, ← ed, ← ga, ← gb, ← gc, ← gd]
        rw [← hs, hlen] at hpush
        have H1 := Lib.hid hpush
        have H2 := Lib.hid hbr
        have H3 := Lib.hid hf
        clear ga gb gc gd hpush hs hbr hf hlen ea eb ec ed
        go_wp2
        go_quiet (fail)
        go_wp2
        refine wp_region_tail 29 (by kernel_rfl) (by kernel_rfl) ?_
        simp only [List.take_succ_cons, List.take_zero, List.drop_succ_cons, List.drop_zero]
        have R1 := w_add
        have R2 := r_shr3
        have R3 := r_shr10
        have R4 := r_xor
        repeat still_step
        still_call (rot_7 _ _)
        repeat still_step
        still_call (rot_18 _ _)
        repeat still_step
        still_call (rot_17 _ _)
        repeat still_step
        still_call (rot_19 _ _)
        repeat still_step
        refine wpStill_nil ?_
        clear R1 R2 R3 R4
        go_wp2
        go_roundw
        case rel => exact ⟨n + 1, by omega, by go_num, H1.out, (below_drewN H2.out _).setCell (Nat.le_refl _) _⟩
        case measure => simp [intOf] <;> omega
    · obtain rfl : n = 64 := by omega
      have hhr : wr.heap[hb]? = some (.cells s.cs.toArray 155 (0, 0)) := (hbr.block hb (Array.getElem?_eq_some_iff.1 HH.out).1).trans HH.out
      have hcs : cellsAt wr hb 0 s.cs := fun j u hj => by rw [cell_of_row _ _ _ _ _ _ hhr, Nat.zero_add]; simpa using hj
      obtain ⟨hi2, Z2, hz2, hz3⟩ := zero_of (P := Tryz.prog) stateInfo
      have hT2 : Tabs wr := HT.out.of_below hbr HT.out.2.2
      have hBs : Below w.heap.size w (wr.alloc (.cells s.cs.toArray 155)) := hbr.alloc hbr.size _
      have hfW : Filled (wr.alloc (.cells s.cs.toArray 155)) w.heap.size 162 (sched p 64) 64 := hf.of_block ((MapKept.heap_alloc _ _).2 _ hf.lt)
      have hne := hf.lt
      have hsz := hbr.size
      have H1 := Lib.hid hf
      have H2 := Lib.hid hbr
      have H3 := Lib.hid hhr
      have H4 := Lib.hid hcs
      have H5 := Lib.hid hi2
      have H6 := Lib.hid hz2
      have H7 := Lib.hid hz3
      have H8 := Lib.hid hT2
      have H9 := Lib.hid hfW
      clear hf hbr hhr hcs hi2 hz2 hz3 hT2 hfW hBs hlen
      go_wp2_with (first
        | (refine wpList_loadAgg _ rfl 155 _ rfl _ Tryz.underlying155 rfl hb 0 rfl s.cs (by rw [H5.out]; rfl) H4.out ?_)
        | (refine wpList_allocZ _ rfl 155 rfl Z2 H6.out ?_)
        | (refine wpList_storeNew _ wr rfl 155 _ _ rfl Z2.cells rfl rfl s.cs.toArray rfl (by rw [H5.out]; rfl) (by rw [H7.out]; rfl) (by simp [St.cs, Value.oneCell']) ?_))
      go_loopw [96] (fun i wq => ∃ n : Nat, n ≤ 64 ∧ i = .int .i64 n ∧ wq.heap[wr.heap.size]? = some (.cells (s.rounds KT (sched p 64) n).cs.toArray 155 (0, 0)) ∧ Below wr.heap.size wr wq) (fun i _ => 64 - (intOf i).toNat)
      case atStart => exact ⟨0, by omega, rfl, (MapKept.heap_alloc _ _).1, (Below.refl _ wr).alloc (Nat.le_refl _) _⟩
      case round =>
        obtain ⟨n, hn, rfl, hst, hbr⟩ := hrel
        have hf2 := H1.out.of_block (hbr.block _ hne)
        have hT3 := H8.out.of_below hbr H8.out.2.2
        by_cases hlt : n < 64
        · have kk := hT3.1 n hlt
          have kw := hf2.get (i := n) (by rw [length_sched]; exact hlt)
          have e1 : s.rounds KT (sched p 64) (n + 1) = (s.rounds KT (sched p 64) n).round (KT.getD n 0) ((sched p 64).getD n 0) := rfl
          have E1 := Lib.hid e1
          clear e1
          generalize KT.getD n 0 = xk at kk E1
          generalize (sched p 64).getD n 0 = xw at kw E1
          generalize s.rounds KT (sched p 64) n = st at hst E1
          have c0 : wr.cell? ⟨_, 0, none⟩ = some (vw st.a) := cell_of_row _ _ 0 _ _ _ hst
          have c1 : wr.cell? ⟨_, 1, none⟩ = some (vw st.b) := cell_of_row _ _ 1 _ _ _ hst
          have c2 : wr.cell? ⟨_, 2, none⟩ = some (vw st.c) := cell_of_row _ _ 2 _ _ _ hst
          have c3 : wr.cell? ⟨_, 3, none⟩ = some (vw st.d) := cell_of_row _ _ 3 _ _ _ hst
          have c4 : wr.cell? ⟨_, 4, none⟩ = some (vw st.e) := cell_of_row _ _ 4 _ _ _ hst
          have c5 : wr.cell? ⟨_, 5, none⟩ = some (vw st.f) := cell_of_row _ _ 5 _ _ _ hst
          have c6 : wr.cell? ⟨_, 6, none⟩ = some (vw st.g) := cell_of_row _ _ 6 _ _ _ hst
          have c7 : wr.cell? ⟨_, 7, none⟩ = some (vw st.h) := cell_of_row _ _ 7 _ _ _ hst
          have G1 := Lib.hid hst
          have G2 := Lib.hid hbr
          clear hst hbr hf2 hT3
          go_wp2
          go_quiet (fail)
          go_wp2
          refine wp_region_tail 30 (by kernel_rfl) (by kernel_rfl) ?_
          simp only [List.take_succ_cons, List.take_zero, List.drop_succ_cons, List.drop_zero]
          have R1 := w_add
          have R2 := r_and
          have R3 := r_notm
          have R5 : IntKind.u32.signed = false := rfl
          have R4 := r_xor
          repeat still_step
          still_call (rot_6 _ _)
          repeat still_step
          still_call (rot_11 _ _)
          repeat still_step
          still_call (rot_25 _ _)
          repeat still_step
          refine wpStill_nil ?_
          clear R1 R2 R3 R4 R5
          go_wp2
          refine wp_region_tail 24 (by kernel_rfl) (by kernel_rfl) ?_
          simp only [List.take_succ_cons, List.take_zero, List.drop_succ_cons, List.drop_zero]
          have R1 := w_add
          have R2 := r_and
          have R4 := r_xor
          repeat still_step
          still_call (rot_2 _ _)
          repeat still_step
          still_call (rot_13 _ _)
          repeat still_step
          still_call (rot_22 _ _)
          repeat still_step
          refine wpStill_nil ?_
          clear R1 R2 R4
          have R1 := r_add
          go_wp2_with (first
            | (refine wpList_storeRow rfl 155 _ _ rfl G1.out rfl _ rfl (by rw [H5.out]; rfl) rfl (by simp [Value.oneCell']) ?_; intro w5 hw5 hg5 hs5; have G5 := Lib.hid hw5; have G6 := Lib.hid hg5; clear hw5 hg5))
          clear R1
          have hs6 : wr.heap.size ≤ (wr.drewN (nq + 1 + 1)).heap.size := Nat.le_refl _
          have hsz2 := G2.out.size
          go_roundw
          case rel => exact ⟨n + 1, by omega, by go_num, by rw [E1.out]; exact G5.out, (below_drewN G2.out _).grown G6.out hsz2 (fun k e => by cases e; exact Nat.le_refl _)⟩
          case measure => simp [intOf] <;> omega
        · obtain rfl : n = 64 := by omega
          generalize hst0 : s.rounds KT (sched p 64) 64 = st at hst
          have E2 := Lib.hid hst0
          have hh2 := (hbr.block hb (Array.getElem?_eq_some_iff.1 H3.out).1).trans H3.out
          have hhb : hb < w.heap.size := (Array.getElem?_eq_some_iff.1 HH.out).1
          have hgw := H2.out.size
          clear hst0 hf2 hT3
          rw [St.cs_l] at hst hh2
          have G1 := Lib.hid hst
          have G2 := Lib.hid hbr
          have G3 := Lib.hid hh2
          clear hst hbr hh2
          go_wp2
          go_loopw [176] (fun i wz => ∃ n : Nat, n ≤ 8 ∧ i = .int .i64 n ∧ wz.heap[hb]? = some (.cells ((addL s.l st.l n).map vw).toArray 155 (0, 0)) ∧ wr.grownBy wz (some hb)) (fun i _ => 8 - (intOf i).toNat)
          case atStart => exact ⟨0, by omega, rfl, by rw [addL_zero]; exact G3.out, World.grownBy.refl _ _⟩
          case round =>
            obtain ⟨n, hn, rfl, hh, hg⟩ := hrel
            by_cases hlt : n < 8
            · have l1 : s.l.length = 8 := rfl
              have l2 : st.l.length = 8 := rfl
              have hbs := (hg.block _ (Array.getElem?_eq_some_iff.1 G1.out).1 (fun e => by cases e; omega)).trans G1.out
              have ch : wr.cell? ⟨hb, n, none⟩ = some (vw (s.l.getD n 0)) := by rw [cell_of_row _ _ _ _ _ _ hh]; simp [addL_get l1 l2 hlt]
              have hb8 : st.l[n]? = some (st.l.getD n 0) := by simp [List.getD, l2, hlt]
              have hv : ((st.l.map vw).toArray)[n]? = some (vw (st.l.getD n 0)) := by simp only [List.getElem?_toArray, List.getElem?_map, hb8]; rfl
              have cs := (cell_of_row _ _ n _ _ _ hbs).trans hv
              have hfr : wr.frozen? ⟨hb, n, none⟩ = false := by simp [World.frozen?, hh]
              have hset := row_set (n := n) hh (bAdd (s.l.getD n 0) (st.l.getD n 0))
              rw [addL_set l1 l2 hlt] at hset
              have K1 := Lib.hid hset
              have K2 := Lib.hid hg
              generalize s.l.getD n 0 = xs at ch K1
              generalize st.l.getD n 0 = xt at cs K1
              clear hh hg l1 l2 hbs hb8 hset hv
              go_wp2
              refine wp_region_tail 11 (by kernel_rfl) (by kernel_rfl) ?_
              simp only [List.take_succ_cons, List.take_zero, List.drop_succ_cons, List.drop_zero]
              have R1 := w_add
              repeat still_step
              refine wpStill_nil ?_
              clear R1
              go_wp2
              go_roundw
              case rel => (repeat apply Exists.intro); exact ⟨⟨n + 1, by omega, by go_num, K1.out, grownBy_drew (grownBy_trans K2.out (grownBy_set _ hb _ _))⟩, rfl⟩
              case measure => simp [intOf] <;> omega
            · obtain rfl : n = 8 := by omega
              go_wp2
              go_end0
              refine ⟨rfl, ?_, ?_⟩
              · rw [addL_all] at hh
                rw [St.cs_l]
                unfold mixS
                rw [E2.out]
                exact hh
              · have g1 : w.grownBy _ (some hb) := ⟨H2.out.os, H2.out.tape, H2.out.output, H2.out.size, fun i hi _ => H2.out.block i hi⟩
                have g2 := grownBy_trans g1 ⟨G2.out.os, G2.out.tape, G2.out.output, G2.out.size, fun i hi _ => G2.out.block i hi⟩
                exact grownBy_trans g2 hg
end Go.Proofs.YtfoifdhcelcgiaaGreatDoor
