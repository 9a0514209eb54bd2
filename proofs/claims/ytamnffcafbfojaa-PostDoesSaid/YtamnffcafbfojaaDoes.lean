/-
  POST: PostDoes, walked.
-/
import Derived.Test.YtamnffcafbfojaaDoesP
namespace Go.Proofs.Ytamnffcafbfojaa
open Go Go.RowKit Go.BigFrame

/-- the variable of the loop -/
def VarAt (w : World) (bx : Nat) (c : CallV) : Prop := w.heap[bx]? = some (.cells #[.int .i64 c.kind, .int .i64 c.seq, .int .i64 c.node, .int .i64 c.mask, .int .i64 c.at_, .slice c.lp c.es.length c.lcap] tCall (0, 0))

theorem VarAt.cells {w : World} {bx : Nat} {c : CallV} (h : VarAt w bx c) : w.cell? ⟨bx, 0, none⟩ = some (.int .i64 c.kind) ∧ w.cell? ⟨bx, 1, none⟩ = some (.int .i64 c.seq) ∧ w.cell? ⟨bx, 2, none⟩ = some (.int .i64 c.node) ∧ w.cell? ⟨bx, 3, none⟩ = some (.int .i64 c.mask) ∧ w.cell? ⟨bx, 4, none⟩ = some (.int .i64 c.at_) ∧ w.cell? ⟨bx, 5, none⟩ = some (.slice c.lp c.es.length c.lcap) := by
  unfold VarAt at h
  refine ⟨?_, ?_, ?_, ?_, ?_, ?_⟩ <;> simp [World.cell?, h]

theorem VarAt.keeps {S : Nat → Prop} {w w' : World} {bx : Nat} {c : CallV} (h : VarAt w bx c) (hk : Keeps S w w') (hS : ¬ S bx) : VarAt w' bx c :=
  (hk.block bx (Array.getElem?_eq_some_iff.1 h).1 hS).trans h

set_option maxRecDepth 100000 in
set_option maxHeartbeats 8000000 in
theorem does_any (p1 : Option Addr) (cap1 : Nat) (cs : List CallV) (w : World) (hC : CallsAt w w.heap.size p1 cs) (hz : cs.length ≤ 9223372036854775807) :
    Calls Try.prog 7 #[.slice p1 cs.length cap1] w fun e w' => e = .returned (.bool true) ∧ Below w.heap.size w w' := by
  have HC := Lib.hid hC
  have HZ := Lib.hid hz
  clear hC hz
  by_cases g1 : 60 < cs.length
  · go_enter Try.func7, Try.ntmps7
    go_wp2_with fail
    refine (alive_any _).mono ?_
    rintro e w1 ⟨rfl, hb1⟩
    go_wp2_with fail
    go_ret
    exact ⟨rfl, hb1⟩
  have m1 : cs.length ≤ 60 := by omega
  clear g1
  go_enter Try.func7, Try.ntmps7
  go_wp2_with fail
  refine (alive_any _).mono ?_
  rintro e w1 ⟨rfl, hb1⟩
  have G1 := Lib.hid hb1
  have S1 := Lib.hid hb1.size
  have A1 := Lib.hid (HC.out.below hb1)
  clear hb1
  go_wp2_with fail
  refine (new_any _).mono ?_
  rintro e w2 ⟨pb, mw, mc, rfl, hp2, hb2, q1, q2, q3⟩
  have hpw := hp2.wait.lt
  have hpc := hp2.came.lt
  have hpb := (Array.getElem?_eq_some_iff.1 hp2.box).1
  have G2 := Lib.hid hp2
  have G3 := Lib.hid hb2
  clear hp2 hb2
  go_wp2_with fail
  obtain ⟨B, hB⟩ : ∃ B, B = w2.heap.size := ⟨_, rfl⟩
  have hbB : Below w1.heap.size w1 (w2.alloc (.cells #[.slice none 0 0, .slice none 0 0] tRef)) := G3.out.alloc G3.out.size _
  have htw : Twin (w2.alloc (.cells #[.slice none 0 0, .slice none 0 0] tRef)) pb mw mc w2.heap.size B (.slice none 0 0) (.slice none 0 0) [] [] [] 0 :=
    ⟨G2.out.below ((Below.refl _ w2).alloc (Nat.le_refl _) _), ⟨World.alloc_heap_new w2 _, by omega, World.ownsRow_nil _ _ _ _, World.ownsRow_nil _ _ _ _⟩, by simp [Sorted], List.Perm.refl _, by simp, by simp, by simp⟩
  have HT := Lib.hid htw
  have HB := Lib.hid hbB
  have hB1 : w1.heap.size ≤ B := by rw [hB]; exact G3.out.size
  rw [← hB] at hpw hpc hpb
  have hmB : B ≤ w2.heap.size := by omega
  clear htw hbB
  generalize w2.heap.size = mb at *
  clear hB
  go_loopw [18] (fun i wr => ∃ (n : Nat) (xW xC : Value) (L W : List Dv) (C : List ((Int × Int) × Int)), n ≤ cs.length ∧ i = .int .i64 n ∧ Twin wr pb mw mc mb B xW xC L W C n ∧ Below w1.heap.size w1 wr) (fun i _ => cs.length - (intOf i).toNat)
  case atStart => exact ⟨0, _, _, _, _, _, by omega, rfl, HT.out, HB.out⟩
  case round =>
    obtain ⟨n, xW, xC, L, W, C, hn1, rfl, ht, hbr⟩ := hrel
    by_cases hlt : n < cs.length
    · obtain ⟨b, off, rfl, hb, hca⟩ := A1.out n hlt
      have hca2 := hca.below hb (hbr.mono S1.out)
      generalize cs.getD n default = c at hca2
      have k0 := hca2.kind
      have k1 := hca2.seq
      have k2 := hca2.node
      have k3 := hca2.mask
      have k4 := hca2.at_
      have k5 := hca2.list
      have hE := Lib.hid (hca2.ents.below ((Below.refl _ wr).alloc (by have := S1.out; have := hbr.size; omega) (.cells #[.int .i64 c.kind, .int .i64 c.seq, .int .i64 c.node, .int .i64 c.mask, .int .i64 c.at_, .slice c.lp c.es.length c.lcap] tCall)))
      have i1 := Lib.hid hca2.i1
      have i2 := Lib.hid hca2.i2
      obtain ⟨wA, hwA⟩ : ∃ wA, wA = wr.alloc (.cells #[.int .i64 c.kind, .int .i64 c.seq, .int .i64 c.node, .int .i64 c.mask, .int .i64 c.at_, .slice c.lp c.es.length c.lcap] tCall) := ⟨_, rfl⟩
      have HwA := Lib.hid hwA
      have hbA : Below wr.heap.size wr wA := by rw [hwA]; exact (Below.refl _ wr).alloc (Nat.le_refl _) _
      have hva : VarAt wA wr.heap.size c := by rw [hwA]; exact World.alloc_heap_new wr _
      have htA := ht.below hbA
      have hmb := ht.ref.lt
      have HTA := Lib.hid htA
      have HVA := Lib.hid hva
      have HBA := Lib.hid (hbr.trans (hbA.mono hbr.size))
      have hBsz : B ≤ wA.heap.size := by have := htA.ref.lt; omega
      rw [← hwA] at hE
      clear hca hca2 hwA hbA hva htA ht hbr
      have hk : c.kind = 0 ∨ c.kind = 1 ∨ c.kind = 2 ∨ c.kind = 3 ∨ (c.kind = 4 ∧ 20 < c.es.length) ∨ (c.kind = 4 ∧ c.es.length ≤ 20) ∨ (c.kind ≠ 0 ∧ c.kind ≠ 1 ∧ c.kind ≠ 2 ∧ c.kind ≠ 3 ∧ c.kind ≠ 4) := by omega
      rcases hk with ek | ek | ek | ek | ⟨ek, el⟩ | ⟨ek, el⟩ | ⟨ek0, ek1, ek2, ek3, ek4⟩
      focus
        have d0 : (c.kind == 0) = true := by simp [ek]
        clear ek
        go_wp2_with fail
        rw [← HwA.out]
        obtain ⟨v0, v1, v2, v3, v4, v5⟩ := HVA.out.cells
        refine (sent_any pb mw mc W C c.seq c.mask wA HTA.out.ours i1.out).mono ?_
        rintro e w3 ⟨rfl, hp3, hg3, hs3⟩
        have hk3 : Keeps (· = mw) wA w3 := Keeps.of_grown hg3 rfl
        have hv3 := HVA.out.keeps hk3 (fun e => by have e : wr.heap.size = mw := e; omega)
        have hr3 := HTA.out.ref.keeps hk3 (fun i hi e => by have e : i = mw := e; omega)
        obtain ⟨x0, x1, x2, x3, x4, x5⟩ := hv3.cells
        have P3 := Lib.hid hp3
        have K3 := Lib.hid hk3
        have V3 := Lib.hid hv3
        have R3 := Lib.hid hr3
        clear hp3 hk3 hv3 hr3 hg3 hs3
        go_wp2_with fail
        refine (noneSent_any c.seq c.mask w3).mono ?_
        rintro e w6 ⟨rfl, hw6⟩
        subst w6
        go_wp2_with fail
        refine (rSent_any mb B _ _ L C.reverse c.seq c.mask _ R3.out (by have := HTA.out.perm.length_eq; have := HTA.out.lenW; omega) HTA.out.sorted).mono ?_
        rintro e w5 ⟨rfl, ⟨yW, hr5⟩, hk5⟩
        have hp5 := P3.out.keeps hk5 (fun e => by have e : pb = mb := e; omega) (fun e => by have e : mw = mb := e; omega) (fun e => by have e : mc = mb := e; omega)
        have hv5 := V3.out.keeps hk5 (fun e => by have e : wr.heap.size = mb := e; omega)
        have hl5 := length_sentN W c.seq c.mask 5
        have T0 : Twin w5 pb mw mc mb B yW xC (rsentN L c.seq c.mask 5) (sentN W c.seq c.mask 5) C (n + 1) := ⟨hp5, hr5, sorted_rsentN HTA.out.sorted _ _ 5, perm_sentN HTA.out.perm _ _ 5, small_sentN HTA.out.small _ _ i1.out, by have := HTA.out.lenW; omega, by have := HTA.out.lenC; omega⟩
        have B0 : Below w1.heap.size w1 w5 := (HBA.out.trans (K3.out.toBelow HBA.out.size (fun i hi e => by have e : i = mw := e; omega))).trans (hk5.toBelow (by have := HBA.out.size; have := K3.out.size; omega) (fun i hi e => by have e : i = mb := e; omega))
        clear hp5 hr5 hk5 hl5
      rotate_left
      focus
        have d0 : (c.kind == 0) = false := by simp [ek]
        have d1 : (c.kind == 1) = true := by simp [ek]
        clear ek
        go_wp2_with fail
        rw [← HwA.out]
        refine wp_region_noPanic ?_
        refine wp_region_till 20 (fun w' => VarAt w' wr.heap.size c) (by kernel_rfl) (by kernel_rfl) ?_
        obtain ⟨wD, hwD⟩ : ∃ wD, wD = wA.drew := ⟨_, rfl⟩
        have hbD : Below wA.heap.size wA wD := by rw [hwD]; exact (Below.refl _ wA).drew
        have htD := HTA.out.below hbD
        have hvD : VarAt wD wr.heap.size c := (hbD.block _ (Array.getElem?_eq_some_iff.1 HVA.out).1).trans HVA.out
        rw [← hwD]
        have HTD := Lib.hid htD
        have HVD := Lib.hid hvD
        have HBD := Lib.hid (HBA.out.trans (hbD.mono HBA.out.size))
        have hszD := hbD.size
        clear hwD hbD htD hvD
        refine Till.pure 0 rfl rfl (by kernel_rfl) (NoPanic.noFrame _) HVD.out ?_
        go_big_quiet_step (fail)
        refine wpQuiet_nil ?_
        refine Till.pure 1 rfl rfl (by kernel_rfl) (NoPanic.noFrame _) HVD.out ?_
        go_big_quiet_step (fail)
        refine wpQuiet_nil ?_
        refine Till.load 2 3 _ ⟨wr.heap.size, 1, none⟩ (.int .i64 c.seq) rfl rfl rfl rfl (by kernel_rfl) (NoPanic.noFrame _) HVD.out (fun w' hw' => run_loadVar_one Try.underlying3 rfl ((VarAt.cells hw').2.1)) ?_
        go_simp
        refine Till.pure 3 rfl rfl (by kernel_rfl) (NoPanic.noFrame _) HVD.out ?_
        go_big_quiet_step (fail)
        refine wpQuiet_nil ?_
        refine Till.load 4 3 _ ⟨wr.heap.size, 2, none⟩ (.int .i64 c.node) rfl rfl rfl rfl (by kernel_rfl) (NoPanic.noFrame _) HVD.out (fun w' hw' => run_loadVar_one Try.underlying3 rfl ((VarAt.cells hw').2.2.1)) ?_
        go_simp
        refine Till.pure 6 rfl rfl (by kernel_rfl) (NoPanic.noFrame _) HVD.out ?_
        go_big_quiet_step (fail)
        refine wpQuiet_nil ?_
        refine Till.pure 7 rfl rfl (by kernel_rfl) (NoPanic.noFrame _) HVD.out ?_
        go_big_quiet_step (fail)
        refine wpQuiet_nil ?_
        refine Till.load 8 3 _ ⟨wr.heap.size, 1, none⟩ (.int .i64 c.seq) rfl rfl rfl rfl (by kernel_rfl) (NoPanic.noFrame _) HVD.out (fun w' hw' => run_loadVar_one Try.underlying3 rfl ((VarAt.cells hw').2.1)) ?_
        go_simp
        refine Till.pure 9 rfl rfl (by kernel_rfl) (NoPanic.noFrame _) HVD.out ?_
        go_big_quiet_step (fail)
        refine wpQuiet_nil ?_
        refine Till.load 10 3 _ ⟨wr.heap.size, 2, none⟩ (.int .i64 c.node) rfl rfl rfl rfl (by kernel_rfl) (NoPanic.noFrame _) HVD.out (fun w' hw' => run_loadVar_one Try.underlying3 rfl ((VarAt.cells hw').2.2.1)) ?_
        go_simp
        refine Till.act 5 rfl rfl (by kernel_rfl) rfl ?_
        intro K hK
        go_wp2_with (first | (go_at_call 11; refine (acked_any pb mw mc W C (c.node, c.seq) wD HTD.out.ours i2.out i1.out).mono ?_; rintro e w3 ⟨rfl, hp3, hg3, hs3⟩))
        have hk3 : Keeps (· = mw) wD w3 := Keeps.of_grown hg3 rfl
        have hv3 := HVD.out.keeps hk3 (fun e => by have e : wr.heap.size = mw := e; omega)
        have hr3 := HTD.out.ref.keeps hk3 (fun i hi e => by have e : i = mw := e; omega)
        refine hK _ _ hv3 ?_
        have P3 := Lib.hid hp3
        have K3 := Lib.hid hk3
        have V3 := Lib.hid hv3
        have R3 := Lib.hid hr3
        clear hp3 hk3 hv3 hr3 hg3 hs3 hK K
        refine Till.act 11 rfl rfl (by kernel_rfl) rfl ?_
        intro K hK
        have HP := Lib.hid (hasW_perm HTD.out.perm (c.node, c.seq))
        go_wp2_with (first | (go_at_call 18; refine (rAcked_any mb B _ _ L C.reverse c.seq c.node w3 R3.out (by have := HTD.out.perm.length_eq; have := HTD.out.lenW; omega) (sorted_keys HTD.out.sorted)).mono ?_; rintro e w5 ⟨he, ⟨yW, hr5⟩, hk5⟩; rw [HP.out] at he; subst he))
        have hp5 := P3.out.keeps hk5 (fun e => by have e : pb = mb := e; omega) (fun e => by have e : mw = mb := e; omega) (fun e => by have e : mc = mb := e; omega)
        have hv5 := V3.out.keeps hk5 (fun e => by have e : wr.heap.size = mb := e; omega)
        refine hK _ _ hv5 ?_
        have T0 : Twin w5 pb mw mc mb B yW xC (acked L (c.node, c.seq)) (acked W (c.node, c.seq)) C (n + 1) := ⟨hp5, hr5, sorted_acked HTD.out.sorted _, perm_acked HTD.out.perm _, small_acked HTD.out.small _, by have := HTD.out.lenW; have := length_acked W (c.node, c.seq); omega, by have := HTD.out.lenC; omega⟩
        have B0 : Below w1.heap.size w1 w5 := (HBD.out.trans (K3.out.toBelow HBD.out.size (fun i hi e => by have e : i = mw := e; omega))).trans (hk5.toBelow (by have := HBD.out.size; have := K3.out.size; omega) (fun i hi e => by have e : i = mb := e; omega))
        clear hp5 hr5 hk5 hK K HP
        generalize hasW W (c.node, c.seq) = bw at *
        refine Till.pure 12 rfl rfl (by kernel_rfl) (NoPanic.noFrame _) hv5 ?_
        go_big_quiet_step (fail)
        refine wpQuiet_nil ?_
        refine Till.pure 13 rfl rfl (by kernel_rfl) (NoPanic.noFrame _) hv5 ?_
        go_big_quiet_step (fail)
        refine wpQuiet_nil ?_
        refine Till.pure 14 rfl rfl (by kernel_rfl) (NoPanic.noFrame _) hv5 ?_
        go_big_quiet_step (fail)
        refine wpQuiet_nil ?_
        refine Till.pure 15 rfl rfl (by kernel_rfl) (NoPanic.noFrame _) hv5 ?_
        go_big_quiet_step (fail)
        refine wpQuiet_nil ?_
        refine Till.load 16 3 _ ⟨wr.heap.size, 1, none⟩ (.int .i64 c.seq) rfl rfl rfl rfl (by kernel_rfl) (NoPanic.noFrame _) hv5 (fun w' hw' => run_loadVar_one Try.underlying3 rfl ((VarAt.cells hw').2.1)) ?_
        go_simp
        refine Till.pure 17 rfl rfl (by kernel_rfl) (NoPanic.noFrame _) hv5 ?_
        go_big_quiet_step (fail)
        refine wpQuiet_nil ?_
        refine Till.load 18 3 _ ⟨wr.heap.size, 2, none⟩ (.int .i64 c.node) rfl rfl rfl rfl (by kernel_rfl) (NoPanic.noFrame _) hv5 (fun w' hw' => run_loadVar_one Try.underlying3 rfl ((VarAt.cells hw').2.2.1)) ?_
        go_simp
        refine Till.act 19 rfl rfl (by kernel_rfl) rfl ?_
        intro K hK
        go_wp2_with (first | (go_at_call 11; refine (noneAcked_any c.seq c.node w5).mono ?_; rintro e w6 ⟨rfl, hw6⟩; subst w6))
        refine hK _ _ hv5 ?_
        clear hK K
        refine Till.tail _ rfl rfl (by kernel_rfl) (by kernel_rfl) ?_
        go_wp2
        refine NoPanic.normal ?_
      rotate_left
      focus
        have d0 : (c.kind == 0) = false := by simp [ek]
        have d1 : (c.kind == 1) = false := by simp [ek]
        have d2 : (c.kind == 2) = true := by simp [ek]
        clear ek
        go_wp2_with fail
        rw [← HwA.out]
        obtain ⟨v0, v1, v2, v3, v4, v5⟩ := HVA.out.cells
        refine (came_any pb mw mc W C (c.node, c.seq) c.at_ wA HTA.out.ours i2.out i1.out).mono ?_
        rintro e w3 ⟨rfl, hp3, hg3, hs3⟩
        have hk3 : Keeps (· = mc) wA w3 := Keeps.of_grown hg3 rfl
        have hv3 := HVA.out.keeps hk3 (fun e => by have e : wr.heap.size = mc := e; omega)
        have hr3 := HTA.out.ref.keeps hk3 (fun i hi e => by have e : i = mc := e; omega)
        obtain ⟨x0, x1, x2, x3, x4, x5⟩ := hv3.cells
        have P3 := Lib.hid hp3
        have K3 := Lib.hid hk3
        have V3 := Lib.hid hv3
        have R3 := Lib.hid hr3
        clear hp3 hk3 hv3 hr3 hg3 hs3
        go_wp2_with fail
        refine (noneCame_any c.node c.seq c.at_ w3).mono ?_
        rintro e w6 ⟨rfl, hw6⟩
        subst w6
        go_wp2_with fail
        refine (rComes_any mb B _ _ L C.reverse (c.node, c.seq) c.at_ w3 R3.out (by have := HTA.out.lenC; rw [List.length_reverse]; omega)).mono ?_
        rintro e w5 ⟨rfl, ⟨yC, hr5⟩, hb5, hts5⟩
        have hp5 := P3.out.under hb5 hpb hpw hpc
        have hv5 : VarAt w5 wr.heap.size c := (hts5 _ _ V3.out).trans V3.out
        have hl5 := length_comes C (c.node, c.seq) c.at_
        rw [rcomes_reverse] at hr5
        have T0 : Twin w5 pb mw mc mb B xW yC L W (comes C (c.node, c.seq) c.at_) (n + 1) := ⟨hp5, hr5, HTA.out.sorted, HTA.out.perm, HTA.out.small, by have := HTA.out.lenW; omega, by have := HTA.out.lenC; omega⟩
        have B0 : Below w1.heap.size w1 w5 := (HBA.out.trans (K3.out.toBelow HBA.out.size (fun i hi e => by have e : i = mc := e; omega))).trans (hb5.mono hB1)
        clear hp5 hr5 hl5 hb5 hts5
      rotate_left
      focus
        have d0 : (c.kind == 0) = false := by simp [ek]
        have d1 : (c.kind == 1) = false := by simp [ek]
        have d2 : (c.kind == 2) = false := by simp [ek]
        have d3 : (c.kind == 3) = true := by simp [ek]
        clear ek
        go_wp2_with fail
        rw [← HwA.out]
        obtain ⟨v0, v1, v2, v3, v4, v5⟩ := HVA.out.cells
        refine (tick_any pb mw mc W C wA HTA.out.ours HTA.out.small).mono ?_
        rintro e w3 ⟨rfl, hp3, hg3⟩
        have hk3 : Keeps (· = mw) wA w3 := Keeps.of_grown hg3 rfl
        have hv3 := HVA.out.keeps hk3 (fun e => by have e : wr.heap.size = mw := e; omega)
        have hr3 := HTA.out.ref.keeps hk3 (fun i hi e => by have e : i = mw := e; omega)
        obtain ⟨x0, x1, x2, x3, x4, x5⟩ := hv3.cells
        have P3 := Lib.hid hp3
        have K3 := Lib.hid hk3
        have V3 := Lib.hid hv3
        have R3 := Lib.hid hr3
        clear hp3 hk3 hv3 hr3 hg3
        go_wp2_with fail
        refine (noneTick_any w3).mono ?_
        rintro e w6 ⟨rfl, hw6⟩
        subst w6
        go_wp2_with fail
        refine (rTick_any mb B _ _ L C.reverse w3 R3.out (by have := HTA.out.perm.length_eq; have := HTA.out.lenW; omega)).mono ?_
        rintro e w5 ⟨rfl, hr5, hb5, hts5⟩
        have hp5 := P3.out.under hb5 hpb hpw hpc
        have hv5 : VarAt w5 wr.heap.size c := (hts5 _ _ V3.out).trans V3.out
        have T0 : Twin w5 pb mw mc mb B xW xC (L.map older) (W.map older) C (n + 1) := ⟨hp5, hr5, sorted_older HTA.out.sorted, HTA.out.perm.map _, small_older HTA.out.small, by have := HTA.out.lenW; rw [List.length_map]; omega, by have := HTA.out.lenC; omega⟩
        have B0 : Below w1.heap.size w1 w5 := (HBA.out.trans (K3.out.toBelow HBA.out.size (fun i hi e => by have e : i = mw := e; omega))).trans (hb5.mono hB1)
        clear hp5 hr5 hb5 hts5
      rotate_left
      focus
        have d0 : (c.kind == 0) = false := by simp [ek]
        have d1 : (c.kind == 1) = false := by simp [ek]
        have d2 : (c.kind == 2) = false := by simp [ek]
        have d3 : (c.kind == 3) = false := by simp [ek]
        have d4 : (c.kind == 4) = true := by simp [ek]
        clear ek
        go_wp2_with fail
        rw [← HwA.out]
        go_ret
        exact ⟨rfl, (G1.out.trans (HBA.out.mono G1.out.size))⟩
      focus
        have d0 : (c.kind == 0) = false := by simp [ek]
        have d1 : (c.kind == 1) = false := by simp [ek]
        have d2 : (c.kind == 2) = false := by simp [ek]
        have d3 : (c.kind == 3) = false := by simp [ek]
        have d4 : (c.kind == 4) = true := by simp [ek]
        clear ek
        go_wp2_with fail
        rw [← HwA.out]
        obtain ⟨v0, v1, v2, v3, v4, v5⟩ := HVA.out.cells
        refine (load_any pb mw mc w.heap.size W C c.lp c.lcap c.es wA HTA.out.ours hE.out (by omega) (by have := S1.out; omega) (by have := S1.out; omega) (by have := S1.out; omega)).mono ?_
        rintro e w3 ⟨rfl, hp3, hk3⟩
        have hv3 := HVA.out.keeps hk3 (fun e => by rcases e with e | e <;> omega)
        have hr3 := HTA.out.ref.keeps hk3 (fun i hi e => by rcases e with e | e <;> omega)
        have hE3 := hE.out.below (w' := w3) (hk3.toBelow (by have := S1.out; omega) (fun i hi e => by have := S1.out; rcases e with e | e <;> omega))
        obtain ⟨x0, x1, x2, x3, x4, x5⟩ := hv3.cells
        have P3 := Lib.hid hp3
        have K3 := Lib.hid hk3
        have V3 := Lib.hid hv3
        have R3 := Lib.hid hr3
        have E3 := Lib.hid hE3
        clear hp3 hk3 hv3 hr3 hE3
        go_wp2_with fail
        refine (rLoad_any mb B _ _ L C.reverse c.lp c.lcap c.es w3 R3.out (fun i hi => by obtain ⟨b, off, y1, y2, y3⟩ := E3.out i hi; exact ⟨b, off, y1, by have := S1.out; omega, y3⟩) (by omega) (by have := HTA.out.perm.length_eq; have := HTA.out.lenW; omega) (by have := HTA.out.lenC; rw [List.length_reverse]; omega) HTA.out.sorted).mono ?_
        rintro e w5 ⟨rfl, ⟨yW, yC, hr5⟩, hb5, hts5⟩
        have hp5 := P3.out.under hb5 hpb hpw hpc
        have hv5 : VarAt w5 wr.heap.size c := (hts5 _ _ V3.out).trans V3.out
        have hl5 := length_loadW c.es W c.es.length
        have hl6 := length_loadC c.es C c.es.length
        rw [rloadM_reverse] at hr5
        have T0 : Twin w5 pb mw mc mb B yW yC (rloadL c.es L c.es.length) (loadW c.es W c.es.length) (loadC c.es C c.es.length) (n + 1) := ⟨hp5, hr5, sorted_rloadL HTA.out.sorted _ _, perm_rloadL HTA.out.perm _ _, small_loadW HTA.out.small _ (by omega), by have := HTA.out.lenW; omega, by have := HTA.out.lenC; omega⟩
        have B0 : Below w1.heap.size w1 w5 := (HBA.out.trans (K3.out.toBelow HBA.out.size (fun i hi e => by rcases e with e | e <;> omega))).trans (hb5.mono hB1)
        clear hp5 hr5 hl5 hl6 hb5 hts5
      rotate_left
      focus
        have d0 : (c.kind == 0) = false := by simpa using ek0
        have d1 : (c.kind == 1) = false := by simpa using ek1
        have d2 : (c.kind == 2) = false := by simpa using ek2
        have d3 : (c.kind == 3) = false := by simpa using ek3
        have d4 : (c.kind == 4) = false := by simpa using ek4
        clear ek0 ek1 ek2 ek3 ek4
        obtain ⟨w5, hw5⟩ : ∃ w5, w5 = wA := ⟨_, rfl⟩
        have hv5 : VarAt w5 wr.heap.size c := by rw [hw5]; exact HVA.out
        have T0 : Twin w5 pb mw mc mb B xW xC L W C (n + 1) := by rw [hw5]; exact ⟨HTA.out.ours, HTA.out.ref, HTA.out.sorted, HTA.out.perm, HTA.out.small, by have := HTA.out.lenW; omega, by have := HTA.out.lenC; omega⟩
        have B0 : Below w1.heap.size w1 w5 := by rw [hw5]; exact HBA.out
        have HW5 := Lib.hid hw5
        clear hw5
        go_wp2_with fail
        rw [← HwA.out, ← HW5.out]
      rotate_left
      all_goals
        obtain ⟨W5, L5, C5, yW5, yC5, hT⟩ : ∃ W5 L5 C5 yW5 yC5, Twin w5 pb mw mc mb B yW5 yC5 L5 W5 C5 (n + 1) := ⟨_, _, _, _, _, T0⟩
        obtain ⟨pvW, capW, rfl⟩ := owns_slice hT.ref.wait
        have T5 := Lib.hid hT
        have B5 := Lib.hid B0
        have hmb5 := hT.ref.lt
        have hL1 : ∀ w', Below w5.heap.size w5 w' → w'.cell? ⟨mb, 0, none⟩ = some (.slice pvW L5.length capW) := fun w' h => (h.cell (p := ⟨mb, 0, none⟩) hmb5).trans (by simp [World.cell?, hT.ref.box])
        have hL2 : ∀ w', Below w5.heap.size w5 w' → w'.cell? ⟨wr.heap.size, 1, none⟩ = some (.int .i64 c.seq) := fun w' h => (h.cell (p := ⟨wr.heap.size, 1, none⟩) (Array.getElem?_eq_some_iff.1 hv5).1).trans hv5.cells.2.1
        have hL3 : ∀ w', Below w5.heap.size w5 w' → w'.cell? ⟨wr.heap.size, 2, none⟩ = some (.int .i64 c.node) := fun w' h => (h.cell (p := ⟨wr.heap.size, 2, none⟩) (Array.getElem?_eq_some_iff.1 hv5).1).trans hv5.cells.2.2.1
        have HL1 := Lib.hid hL1
        have HL2 := Lib.hid hL2
        have HL3 := Lib.hid hL3
        clear T0 hv5 B0 hT hL1 hL2 hL3
        go_wp2_with fail
        refine wp_region_noPanic ?_
        refine wp_region_till 37 (fun w' => Below w5.heap.size w5 w') (by kernel_rfl) (by kernel_rfl) ?_
        obtain ⟨wE, hwE⟩ : ∃ wE, wE = w5.drew := ⟨_, rfl⟩
        have hbE : Below w5.heap.size w5 wE := by rw [hwE]; exact (Below.refl _ w5).drew
        rw [← hwE]
        have HBE := Lib.hid hbE
        have TE := Lib.hid (T5.out.below hbE)
        have hszE := hbE.size
        clear hwE hbE
        refine Till.pure 0 rfl rfl (by kernel_rfl) (NoPanic.noFrame _) HBE.out ?_
        go_big_quiet_step (fail)
        refine wpQuiet_nil ?_
        refine Till.pure 2 rfl rfl (by kernel_rfl) (NoPanic.noFrame _) HBE.out ?_
        go_big_quiet_step (fail)
        refine wpQuiet_nil ?_
        refine Till.pure 3 rfl rfl (by kernel_rfl) (NoPanic.noFrame _) HBE.out ?_
        go_big_quiet_step (fail)
        refine wpQuiet_nil ?_
        refine Till.pure 4 rfl rfl (by kernel_rfl) (NoPanic.noFrame _) HBE.out ?_
        go_big_quiet_step (fail)
        refine wpQuiet_nil ?_
        refine Till.load 5 48 _ ⟨mb, 0, none⟩ (.slice pvW L5.length capW) rfl rfl rfl rfl (by kernel_rfl) (NoPanic.noFrame _) HBE.out (fun w' hw' => run_loadVar_one Try.underlying48 rfl (HL1.out w' hw')) ?_
        go_simp
        refine Till.act 1 rfl rfl (by kernel_rfl) rfl ?_
        intro K hK
        go_wp2_with (first | (go_at_call 12; refine (dues_any pb mw mc W5 C5 wE TE.out.ours TE.out.small (by have := TE.out.lenW; omega)).mono ?_; rintro e w7 ⟨v, xs, rfl, hS, hrow, hb7⟩; obtain ⟨hr7, hks⟩ := dues_flat hS TE.out.sorted TE.out.perm TE.out.ours.nodup; rw [hr7, hks] at hrow; obtain ⟨p7, cap7, rfl⟩ := owns_slice hrow))
        have hS7 := HBE.out.trans (hb7.mono hszE)
        refine hK _ _ hS7 ?_
        have hsb := ownsRow_src (ownsRow_below TE.out.ref.wait hb7 (Nat.le_refl _))
        have hsa := ownsRow_src hrow
        have hpa : ∀ b off, p7 = some ⟨b, off, none⟩ → b < w7.heap.size ∧ off = 0 := fun b off e => by have := ownsRow_at hrow e; exact ⟨this.2.1, this.2.2.1⟩
        have hpb' : ∀ b off, pvW = some ⟨b, off, none⟩ → b < w7.heap.size ∧ off = 0 := fun b off e => by have h1 := ownsRow_at TE.out.ref.wait e; have h2 := h1.2.1; have h3 := hb7.size; exact ⟨by omega, h1.2.2.1⟩
        have Q1 := Lib.hid hsa
        have Q2 := Lib.hid hsb
        have Q3 := Lib.hid hpa
        have Q4 := Lib.hid hpb'
        have Q5 := Lib.hid hS7
        have Q6 := Lib.hid (TE.out.below hb7)
        clear hS hrow hb7 hr7 hks hsa hsb hpa hpb' hS7 hK K
        refine Till.act 6 rfl rfl (by kernel_rfl) rfl ?_
        intro K hK
        go_wp2_with (first | (go_at_call 22; refine (same_any p7 pvW cap7 capW L5 w7 Q1.out Q2.out Q3.out Q4.out (by have := TE.out.perm.length_eq; have := TE.out.lenW; omega)).mono ?_; rintro e w8 ⟨rfl, hb8⟩))
        have hS8 := Q5.out.trans (hb8.mono Q5.out.size)
        refine hK _ _ hS8 ?_
        have Q7 := Lib.hid (Q6.out.below hb8)
        clear hb8 hK K
        refine Till.pure 7 rfl rfl (by kernel_rfl) (NoPanic.noFrame _) hS8 ?_
        go_big_quiet_step (fail)
        refine wpQuiet_nil ?_
        refine Till.pure 8 rfl rfl (by kernel_rfl) (NoPanic.noFrame _) hS8 ?_
        go_big_quiet_step (fail)
        refine wpQuiet_nil ?_
        refine Till.pure 9 rfl rfl (by kernel_rfl) (NoPanic.noFrame _) hS8 ?_
        go_big_quiet_step (fail)
        refine wpQuiet_nil ?_
        refine Till.pure 10 rfl rfl (by kernel_rfl) (NoPanic.noFrame _) hS8 ?_
        go_big_quiet_step (fail)
        refine wpQuiet_nil ?_
        refine Till.load 11 3 _ ⟨wr.heap.size, 2, none⟩ (.int .i64 c.node) rfl rfl rfl rfl (by kernel_rfl) (NoPanic.noFrame _) hS8 (fun w' hw' => run_loadVar_one Try.underlying3 rfl (HL3.out w' hw')) ?_
        go_simp
        refine Till.pure 12 rfl rfl (by kernel_rfl) (NoPanic.noFrame _) hS8 ?_
        go_big_quiet_step (fail)
        refine wpQuiet_nil ?_
        refine Till.load 13 3 _ ⟨wr.heap.size, 1, none⟩ (.int .i64 c.seq) rfl rfl rfl rfl (by kernel_rfl) (NoPanic.noFrame _) hS8 (fun w' hw' => run_loadVar_one Try.underlying3 rfl (HL2.out w' hw')) ?_
        go_simp
        refine Till.pure 15 rfl rfl (by kernel_rfl) (NoPanic.noFrame _) hS8 ?_
        go_big_quiet_step (fail)
        refine wpQuiet_nil ?_
        refine Till.pure 16 rfl rfl (by kernel_rfl) (NoPanic.noFrame _) hS8 ?_
        go_big_quiet_step (fail)
        refine wpQuiet_nil ?_
        refine Till.load 17 3 _ ⟨wr.heap.size, 2, none⟩ (.int .i64 c.node) rfl rfl rfl rfl (by kernel_rfl) (NoPanic.noFrame _) hS8 (fun w' hw' => run_loadVar_one Try.underlying3 rfl (HL3.out w' hw')) ?_
        go_simp
        refine Till.pure 18 rfl rfl (by kernel_rfl) (NoPanic.noFrame _) hS8 ?_
        go_big_quiet_step (fail)
        refine wpQuiet_nil ?_
        refine Till.load 19 3 _ ⟨wr.heap.size, 1, none⟩ (.int .i64 c.seq) rfl rfl rfl rfl (by kernel_rfl) (NoPanic.noFrame _) hS8 (fun w' hw' => run_loadVar_one Try.underlying3 rfl (HL2.out w' hw')) ?_
        go_simp
        refine Till.act 14 rfl rfl (by kernel_rfl) rfl ?_
        intro K hK
        go_wp2_with (first | (go_at_call 15; refine (where_any pb mw mc W5 C5 (c.node, c.seq) w8 Q7.out.ours i2.out i1.out).mono ?_; rintro e w9 ⟨rfl, hw9⟩; subst w9))
        refine hK _ _ hS8 ?_
        clear hK K
        have HG := Lib.hid (getC_reverse C5 Q7.out.ours.nodupC (c.node, c.seq))
        refine Till.act 20 rfl rfl (by kernel_rfl) rfl ?_
        intro K hK
        go_wp2_with (first | (go_at_call 23; refine (rWhere_any mb B _ _ L5 C5.reverse (c.node, c.seq) w8 Q7.out.ref (by have := Q7.out.lenC; rw [List.length_reverse]; omega)).mono ?_; rintro e w9 ⟨he, hb9⟩; rw [HG.out] at he; subst he))
        have hS9 := hS8.trans (hb9.mono hS8.size)
        refine hK _ _ hS9 ?_
        have Q8 := Lib.hid (Q7.out.below hb9)
        clear hb9 hK K HG
        generalize getC C5 (c.node, c.seq) = gv at *
        refine Till.pure 21 rfl rfl (by kernel_rfl) (NoPanic.noFrame _) hS9 ?_
        go_big_quiet_step (fail)
        refine wpQuiet_nil ?_
        refine Till.pure 22 rfl rfl (by kernel_rfl) (NoPanic.noFrame _) hS9 ?_
        go_big_quiet_step (fail)
        refine wpQuiet_nil ?_
        refine Till.pure 23 rfl rfl (by kernel_rfl) (NoPanic.noFrame _) hS9 ?_
        go_big_quiet_step (fail)
        refine wpQuiet_nil ?_
        refine Till.pure 24 rfl rfl (by kernel_rfl) (NoPanic.noFrame _) hS9 ?_
        go_big_quiet_step (fail)
        refine wpQuiet_nil ?_
        refine Till.pure 25 rfl rfl (by kernel_rfl) (NoPanic.noFrame _) hS9 ?_
        go_big_quiet_step (fail)
        refine wpQuiet_nil ?_
        refine Till.load 26 3 _ ⟨wr.heap.size, 2, none⟩ (.int .i64 c.node) rfl rfl rfl rfl (by kernel_rfl) (NoPanic.noFrame _) hS9 (fun w' hw' => run_loadVar_one Try.underlying3 rfl (HL3.out w' hw')) ?_
        go_simp
        refine Till.pure 27 rfl rfl (by kernel_rfl) (NoPanic.noFrame _) hS9 ?_
        go_big_quiet_step (fail)
        refine wpQuiet_nil ?_
        refine Till.load 28 3 _ ⟨wr.heap.size, 1, none⟩ (.int .i64 c.seq) rfl rfl rfl rfl (by kernel_rfl) (NoPanic.noFrame _) hS9 (fun w' hw' => run_loadVar_one Try.underlying3 rfl (HL2.out w' hw')) ?_
        go_simp
        refine Till.act 29 rfl rfl (by kernel_rfl) rfl ?_
        intro K hK
        go_wp2_with (first | (go_at_call 15; refine (noneWhere_any c.node c.seq w9).mono ?_; rintro e wX ⟨rfl, hwX⟩; subst wX))
        refine hK _ _ hS9 ?_
        clear hK K
        refine Till.pure 30 rfl rfl (by kernel_rfl) (NoPanic.noFrame _) hS9 ?_
        go_big_quiet_step (fail)
        refine wpQuiet_nil ?_
        refine Till.pure 31 rfl rfl (by kernel_rfl) (NoPanic.noFrame _) hS9 ?_
        go_big_quiet_step (fail)
        refine wpQuiet_nil ?_
        refine Till.pure 32 rfl rfl (by kernel_rfl) (NoPanic.noFrame _) hS9 ?_
        go_big_quiet_step (fail)
        refine wpQuiet_nil ?_
        refine Till.pure 33 rfl rfl (by kernel_rfl) (NoPanic.noFrame _) hS9 ?_
        go_big_quiet_step (fail)
        refine wpQuiet_nil ?_
        refine Till.act 34 rfl rfl (by kernel_rfl) rfl ?_
        intro K hK
        go_wp2_with (first | (go_at_call 12; refine (noneDues_any w9).mono ?_; rintro e wX ⟨rfl, hwX⟩; subst wX))
        refine hK _ _ hS9 ?_
        clear hK K
        refine Till.act 35 rfl rfl (by kernel_rfl) rfl ?_
        intro K hK
        go_wp2
        refine hK _ _ hS9 ?_
        clear hK K
        refine Till.pure 36 rfl rfl (by kernel_rfl) (NoPanic.noFrame _) hS9 ?_
        go_big_quiet_step (fail)
        refine wpQuiet_nil ?_
        refine Till.tail _ rfl rfl (by kernel_rfl) (by kernel_rfl) ?_
        go_wp2
        refine NoPanic.normal ?_
        go_wp2
        go_roundw
        case rel => exact ⟨n + 1, _, _, _, _, _, by omega, by go_num, Q8.out, B5.out.trans (hS9.mono B5.out.size)⟩
        case measure => simp [intOf]; omega
    · obtain rfl : n = cs.length := by omega
      go_wp2
      go_ret
      exact ⟨rfl, G1.out.trans (hbr.mono G1.out.size)⟩
end Go.Proofs.Ytamnffcafbfojaa
