/-
  Get, Heads, Next.
-/
import Derived.Test.YtfoifdhcelcgiaaGreatDoorDagT
/- What a set answers of a name; its heads. -/
namespace Go.Proofs.YtfoifdhcelcgiaaGreatDoor
open Go Go.RowKit

theorem DagSet.newB {w : World} {b mo mw mt : Nat} {B B' : Nat → Prop} {T : List (Nm × Nat)} (h : DagSet w b mo mw mt B [] [] T) (h1 : ∀ i, i < w.heap.size → B i → B' i) : DagSet w b mo mw mt B' [] [] T :=
  ⟨h.box, h.ops, h.wait, h.out, by simp, by simp, h.okT, h.cnt, ⟨h1 _ h.lt h.inB.1, h1 _ h.ops.lt h.inB.2.1, h1 _ h.wait.lt h.inB.2.2.1, h1 _ h.out.lt h.inB.2.2.2⟩, h.ne, by simp⟩
theorem Z38 : (Value.agg (zeroOp.cs none 0).toArray).cells.size = 38 := by decide

set_option maxRecDepth 100000 in
set_option maxHeartbeats 16000000 in
theorem get_any (b mo mw mt : Nat) (B : Nat → Prop) (O W : List E3) (T : List (Nm × Nat)) (nm : Nm) (hnm : nm.length = 32) (w : World) (h : DagSet w b mo mw mt B O W T) :
    Calls Tryz.prog 38 #[.pointer (some ⟨b, 0, none⟩), idv nm] w fun e w' => Below w.heap.size w w' ∧
      ((∃ o' v, opAt (O.map E3.ent) nm = some o' ∧ e = .returned (.tuple #[v, .int .i64 0]) ∧ OpNew w.heap.size w' v o') ∨
       (opAt (O.map E3.ent) nm = none ∧ e = .returned (.tuple #[.agg (zeroOp.cs none 0).toArray, .int .i64 5]))) := by
  obtain ⟨hz, hid⟩ := info_two idInfo
  obtain ⟨hzo, hio⟩ := info_two opZero
  have HI := Lib.hid hid
  have HZO := Lib.hid hzo
  have HNM := Lib.hid hnm
  have hblt := h.lt
  obtain ⟨w4, hw4⟩ : ∃ w4, w4 = (w.alloc (.cells (bcs nm).toArray 31)).alloc (.cells (zeroOp.cs none 0).toArray 46) := ⟨_, rfl⟩
  have hb4 : Below w.heap.size w w4 := by rw [hw4]; exact ((Below.refl _ w).alloc (Nat.le_refl _) _).alloc (by simp) _
  have HNCw4 := Lib.hid (show cellsAt w4 w.heap.size 0 (bcs nm) by
    rw [hw4]
    exact cellsAt.of_block (by simpa using cellsAt_new w (bcs nm).toArray 31) ((MapKept.heap_alloc _ _).2 _ (by simp)))
  have HDDw4 := Lib.hid (show w4.heap[w.heap.size + 1]? = some (.cells (zeroOp.cs none 0).toArray 46 (0, 0)) by rw [hw4]; exact heap_alloc2 _ _ _)
  have hz4w : w4.heap.size = w.heap.size + 2 := by rw [hw4]; simp
  have HBw4 := Lib.hid hb4
  have HHw4 := Lib.hid (h.under hb4)
  clear h hnm hb4 hz hid hzo hio
  go_enter Tryz.func38, Tryz.ntmps38
  go_upto_region 3 with (first
    | (refine wpList_boxAgg _ rfl 31 _ rfl (bcs nm).toArray (by rfl) ?_)
    | (refine wpList_allocZ _ rfl 46 rfl _ HZO.out ?_))
  rw [show (w.alloc (.cells (bcs nm).toArray 31)).alloc (.cells (zeroOp.cs none 0).toArray 46) = w4 from hw4.symm]
  clear hw4
  obtain ⟨N4, hN4a, hN4b⟩ : ∃ n, w4.heap.size ≤ n ∧ n ≤ w4.heap.size := ⟨_, Nat.le_refl _, Nat.le_refl _⟩
  obtain ⟨V6, hV6⟩ : ∃ V, V = valAt O nm := ⟨_, rfl⟩
  obtain ⟨b6x, hb6x⟩ : ∃ bx, bx = hasN (O.map E3.ent) nm := ⟨_, rfl⟩
  have HBb6x := Lib.hid hb6x
  refine wp_region_noPanic ?_
  refine wp_region_till 11 (fun w' => Below N4 w4 w') (by kernel_rfl) (by kernel_rfl) ?_
  obtain ⟨wA6, hwA6⟩ : ∃ wA6, wA6 = w4.drew := ⟨_, rfl⟩
  have hSwA6 : Below N4 w4 wA6 := by rw [hwA6]; exact (Below.refl N4 w4).drew
  rw [← hwA6]
  have HS6 := Lib.hid hSwA6
  have hzwA6 : wA6.heap.size = w4.heap.size := by rw [hwA6]; rfl
  clear hwA6 hSwA6
  go_simp
  have HLK6 := Lib.hid (show ∀ w', Below N4 w4 w' → (Instr.lookup 78 (.map (some mo)) (idv nm) true).run Tryz.prog w' = .ok (.tuple #[.agg V6.toArray, .bool b6x]) w' from fun w' hw' => by
    rw [hb6x, hV6]
    exact (HHw4.out.below hw' hN4a).ops.look3 HNM.out true)
  have HV6 := Lib.hid (show V6.length = 38 by rw [hV6]; exact valAt_length HHw4.out.okO nm)
  have HV6o := Lib.hid (show ∀ u ∈ V6, u.oneCell' = true by rw [hV6]; exact valAt_one O nm)
  have HV6s := Lib.hid (show 38 = V6.toArray.size by rw [List.size_toArray, HV6.out])
  have HV6x := Lib.hid hV6
  clear hV6 hb6x
  refine Till.pure 0 rfl rfl (by kernel_rfl) (NoPanic.noFrame _) HS6.out ?_
  go_big_quiet_step (fail)
  refine wpQuiet_nil ?_
  refine Till.pure 1 rfl rfl (by kernel_rfl) (NoPanic.noFrame _) HS6.out ?_
  go_big_quiet_step (fail)
  refine wpQuiet_nil ?_
  refine Till.pure 2 rfl rfl (by kernel_rfl) (NoPanic.noFrame _) HS6.out ?_
  go_big_quiet_step (fail)
  refine wpQuiet_nil ?_
  refine Till.load 3 78 _ ⟨b, 0, none⟩ (.map (some mo)) rfl rfl rfl rfl (by kernel_rfl) (NoPanic.noFrame _) HS6.out (fun w' hw' => run_loadVar_one Tryz.underlying78 rfl (HHw4.out.below hw' hN4a).c0) ?_
  go_simp
  refine Till.load 4 31 _ ⟨w.heap.size, 0, none⟩ (idv nm) rfl rfl rfl rfl (by kernel_rfl) (NoPanic.noFrame _) HS6.out (fun w' hw' => run_loadAgg Tryz.underlying31 rfl (by rw [HI.out, bcs_length, HNM.out]) (HNCw4.out.of_block (hw'.block _ (by omega)))) ?_
  go_simp
  refine Till.look 5 78 _ _ true (.map (some mo)) (idv nm) _ rfl rfl rfl (by rfl) (by rfl) (by kernel_rfl) (NoPanic.noFrame _) HS6.out HLK6.out ?_
  go_simp
  refine Till.pure 6 rfl rfl (by kernel_rfl) (NoPanic.noFrame _) HS6.out ?_
  go_big_quiet_step (fail)
  refine wpQuiet_nil ?_
  refine Till.pure 7 rfl rfl (by kernel_rfl) (NoPanic.noFrame _) HS6.out ?_
  go_big_quiet_step (fail)
  refine wpQuiet_nil ?_
  refine Till.pure 8 rfl rfl (by kernel_rfl) (NoPanic.noFrame _) HS6.out ?_
  go_big_quiet_step (fail)
  refine wpQuiet_nil ?_
  refine Till.act 9 rfl rfl (by kernel_rfl) rfl ?_
  intro K hK
  refine wp_allocZ _ 46 rfl _ HZO.out ?_
  refine hK _ _ (HS6.out.alloc (by omega) _) ?_
  clear hK K
  refine Till.act 10 rfl rfl (by kernel_rfl) rfl ?_
  intro K hK
  refine wp_storeNew _ wA6 46 _ _ rfl _ rfl (by rfl) V6.toArray (by rfl) (by rw [opInfo, List.size_toArray, HV6.out]) HV6s.out (by simpa using HV6o.out) ?_
  refine hK _ _ (HS6.out.alloc (by omega) _) ?_
  clear hK K
  refine Till.tail _ rfl rfl (by kernel_rfl) (by kernel_rfl) ?_
  obtain ⟨w5, hw5⟩ : ∃ w, w = wA6.alloc (.cells V6.toArray 46) := ⟨_, rfl⟩
  have hbw5 : Below w4.heap.size w4 w5 := by rw [hw5]; exact (HS6.out.mono hN4a).alloc (by omega) _
  have hzw45 : wA6.heap.size < w5.heap.size := by rw [hw5]; simp
  rw [← hw5]
  have HHw5 := Lib.hid (HHw4.out.under hbw5)
  have HNCw5 := Lib.hid (HNCw4.out.of_block (hbw5.block _ (by omega)))
  have HDDw5 := Lib.hid ((hbw5.block _ (by omega)).trans HDDw4.out)
  have HVC := Lib.hid (show cellsAt w5 wA6.heap.size 0 V6 by rw [hw5]; simpa using cellsAt_new wA6 V6.toArray 46)
  have HBw5 := Lib.hid (HBw4.out.trans (hbw5.mono (by omega)))
  have hzw5 := hbw5.size
  clear hw5 hbw5
  go_wp2
  refine NoPanic.normal ?_
  cases hat : e3At O nm with
  | none =>
    obtain rfl : b6x = false := by rw [HBb6x.out, hasN_ent, hat]; rfl
    have hop : opAt (O.map E3.ent) nm = none := by rw [← e3At_ent, hat]; rfl
    go_wp2_with (first
      | (refine wpList_buildZ _ rfl 46 rfl _ (build_op _) ?_)
      | (refine wpList_storeRow rfl 46 _ _ rfl HDDw5.out (by rfl) (zeroOp.cs none 0).toArray (by rfl) (by rw [opInfo]; rfl) (by rfl) (by simpa using OpV.cs_one zeroOp none 0) ?_; intro w6 hw6 hg6 hs6))
    have hcf : cellsAt w6 (w.heap.size + 1) 0 (zeroOp.cs none 0) := fun j u hj => by rw [cell_of_row _ _ _ _ _ _ hw6, Nat.zero_add]; simpa using hj
    have hbf : Below w.heap.size w w6 := HBw5.out.grown hg6 (by omega) (fun k e => by have := Option.some.inj e; omega)
    refine bodyPost_ret (results_cell_tmp rfl (by rfl) (run_loadAgg Tryz.underlying46 rfl (by rw [opInfo]; rfl) hcf)) rfl ⟨hbf, .inr ⟨hop, rfl⟩⟩
  | some e =>
    obtain rfl : b6x = true := by rw [HBb6x.out, hasN_ent, hat]; rfl
    obtain ⟨hem, hen⟩ := e3At_mem hat
    have hve : V6 = e.o.cs e.p e.c := by rw [HV6x.out, valAt, hat]; rfl
    have hok := HHw5.out.okO e hem
    have hop : opAt (O.map E3.ent) nm = some e.o := by rw [← e3At_ent, hat]; rfl
    have HOP := Lib.hid hop
    have HVC2 := Lib.hid (show cellsAt w5 wA6.heap.size 0 (e.o.cs e.p e.c) by rw [← hve]; exact HVC.out)
    have HOK := Lib.hid hok
    have HCX := Lib.hid (OpV.cs_length hok.ok e.p e.c)
    clear hat hem hen hve hok hop HVC HV6x
    go_wp2_with (first
      | (refine wpList_loadAgg _ rfl 46 _ rfl _ Tryz.underlying46 rfl (w.heap.size + 2) 0 (by rfl) (e.o.cs e.p e.c) (by rw [opInfo, HCX.out]) (by rw [← hz4w, ← hzwA6]; exact HVC2.out) ?_)
      | (go_at_call 59; refine (opclone_any e.o HOK.out.ok e.p e.c w5 HOK.out.src).mono ?_; rintro e8 w8 ⟨v8, rfl, ⟨p8, c8, rfl, hown8⟩, hb8⟩)
      | (refine wpList_storeRow rfl 46 _ _ rfl ((hb8.block _ (by omega)).trans HDDw5.out) (by rfl) (e.o.cs p8 c8).toArray (by rfl) (by rw [opInfo, List.size_toArray, OpV.cs_length HOK.out.ok]) (show 38 = (e.o.cs p8 c8).toArray.size by rw [List.size_toArray, OpV.cs_length HOK.out.ok]) (by simpa using OpV.cs_one e.o p8 c8) ?_; intro w9 hw9 hg9 hs9))
    have hz8 := hb8.size
    have hcf : cellsAt w9 (w.heap.size + 1) 0 (e.o.cs p8 c8) := fun j u hj => by rw [cell_of_row _ _ _ _ _ _ hw9, Nat.zero_add]; simpa using hj
    have hbf : Below w.heap.size w w9 := (HBw5.out.trans (hb8.mono (by omega))).grown hg9 (by omega) (fun k e => by have := Option.some.inj e; omega)
    have ho9 := hown8.keep (w' := w9) (fun g hg => by
      have h1 := hown8.lt hg
      exact hg9.block g h1.2 (fun e => by have := Option.some.inj e; omega))
    refine bodyPost_ret (results_cell_tmp rfl (by rfl) (run_loadAgg Tryz.underlying46 rfl (by rw [opInfo, OpV.cs_length HOK.out.ok]) hcf)) rfl ⟨hbf, .inl ⟨e.o, _, HOP.out, rfl, p8, c8, rfl, ho9.down (by omega)⟩⟩
end Go.Proofs.YtfoifdhcelcgiaaGreatDoor

/- The heads of a set; a draft there. -/
namespace Go.Proofs.YtfoifdhcelcgiaaGreatDoor
open Go Go.RowKit

theorem names_ent (O : List E3) : O.map (·.n) = namesOf (O.map E3.ent) := by simp [namesOf, E3.ent]
theorem heads_filter (O W : List E3) : headsL ⟨O.map E3.ent, W.map E3.ent⟩ = (nsort (O.map (·.n))).filter fun n => decide (behindN (O.map E3.ent) n = 0) := by
  rw [headsL, ← nsort_filter, names_ent]
theorem headsL_len (s : DS) : ∀ x ∈ headsL s, x ∈ namesOf s.ops := fun _ hx => (List.mem_filter.1 (nsort_mem.1 hx)).1
theorem headsL_le (s : DS) : (headsL s).length ≤ s.ops.length := by
  rw [headsL, (nsort_perm _).length_eq]
  exact Nat.le_trans (List.length_filter_le _ _) (by simp [namesOf])

/-! ### an operation that is built -/
def placesOf (fs : Array Field) : Sem (Array (Nat × Nat)) := fs.mapM fun (f : Field) => do pure (f.offset, ← sizeOf f.type)
theorem opPlaces (fs : Array Field) (hf : Tryz.prog.underlying 46 = some (.struct fs)) (w : World) : (placesOf fs).run Tryz.prog w = .ok #[(0, 35), (35, 1), (36, 1), (37, 1)] w := by
  have key : (match Tryz.prog.underlying 46 with | some (.struct fs) => (placesOf fs).run Tryz.prog w | _ => .ok #[] w) = .ok #[(0, 35), (35, 1), (36, 1), (37, 1)] w := by kernel_rfl
  rw [hf] at key
  exact key
theorem fill_step {place : Nat → Option (Nat × Nat)} {cells : Array Value} {i : Nat} {v : Value} {rest : List (Nat × Value)} {off size : Nat} (hp : place i = some (off, size)) (h1 : v.cells.size = size) (h2 : off + size ≤ cells.size) :
    Instr.fill place cells ((i, v) :: rest) = Instr.fill place (cells.toList.take off ++ v.cells.toList ++ cells.toList.drop (off + size)).toArray rest := by
  subst h1
  simp only [Instr.fill, hp]
  rw [if_neg (by simp; omega)]
  congr 1
  apply Array.ext'
  rw [fold_cells off v.cells cells h2]
theorem fill_op {d : Dr} (hd : d.Ok) (a : Int) (s : Value) (hs : s.cells = #[s]) :
    Instr.fill (fun i => (#[(0, 35), (35, 1), (36, 1), (37, 1)] : Array (Nat × Nat))[i]?) (Value.agg (zeroOp.cs none 0).toArray).cells [(0, drv d), (1, .int .i64 a), (3, s)] = some (d.cs ++ [.int .i64 a, .int .i64 0, s]).toArray := by
  have h35 : d.cs.length = 35 := Dr.cs_length hd
  have e0 : (Value.agg (zeroOp.cs none 0).toArray).cells.toList.drop 35 = [.int .i64 0, .int .i64 0, .slice none 0 0] := rfl
  rw [fill_step (off := 0) (size := 35) rfl (by show d.cs.toArray.size = 35; rw [List.size_toArray, h35]) (by rw [Z38]; omega), Nat.zero_add, e0]
  simp only [Value.cells, List.take_zero, List.nil_append]
  rw [fill_step (off := 35) (size := 1) rfl rfl (by simp [h35])]
  simp only [Value.cells]
  have e1 : ∀ l : List Value, (d.cs ++ l).take 35 = d.cs := fun l => List.take_left' h35
  have e2 : ∀ (l : List Value) (k : Nat), (d.cs ++ l).drop (35 + k) = l.drop k := fun l k => by
    rw [List.drop_append, h35, List.drop_eq_nil_of_le (by omega), Nat.add_sub_cancel_left, List.nil_append]
  have e3 : ∀ (l : List Value) (k : Nat), (d.cs ++ l).take (35 + k) = d.cs ++ l.take k := fun l k => by
    rw [List.take_append, h35, List.take_of_length_le (by omega), Nat.add_sub_cancel_left]
  rw [e1, e2]
  rw [fill_step (off := 37) (size := 1) rfl (by rw [hs]; rfl) (by simp [h35])]
  simp only [Instr.fill, hs]
  rw [show (d.cs ++ [Value.int .i64 a] ++ List.drop 1 [Value.int .i64 0, .int .i64 0, .slice none 0 0]) = d.cs ++ [.int .i64 a, .int .i64 0, .slice none 0 0] by simp, show 37 = 35 + 2 from rfl, e3, show 35 + 2 + 1 = 35 + 3 from rfl, e2]
  simp

def opCs (d : Dr) (a : Int) (p : Option Addr) (n c : Nat) : List Value := d.cs ++ [.int .i64 a, .int .i64 0, .slice p n c]
theorem run_buildOp {d : Dr} (hd : d.Ok) (a : Int) (p : Option Addr) (n c : Nat) (w : World) :
    (Instr.build 46 #[(0, drv d), (1, .int .i64 a), (3, .slice p n c)]).run Tryz.prog w = .ok (Value.agg (opCs d a p n c).toArray) w := by
  unfold Instr.build
  have hp := opPlaces _ Tryz.underlying46 w
  unfold placesOf at hp
  have hf := fill_op hd a (.slice p n c) rfl
  simp only [Sem.run_bind, (info_two opZero).1 w, Result.andThen_ok, run_underlying Tryz.underlying46, hp, hf, Sem.run_pure]
  rfl
theorem wpList_buildOp (w : World) {ops : Array Oper} {rest : List Oper} {o : Oper} {a : Act} {Q : Exit → Act → World → Prop} (hg : o.guard = none) (x0 x1 x3 : Operand) (hop : o.op = .build 46 #[(0, x0), (1, x1), (3, x3)]) {d : Dr} (hd : d.Ok) (au : Int) (p : Option Addr) (n c : Nat)
    (h0 : a.eval x0 = drv d) (h1 : a.eval x1 = .int .i64 au) (h3 : a.eval x3 = .slice p n c) (h : wpList Tryz.prog ops Q rest (a.put o.dst (Value.agg (opCs d au p n c).toArray)) w) : wpList Tryz.prog ops Q (o :: rest) a w := by
  refine wpList_plain hg fun K' hK' => ?_
  have hr := run_buildOp hd au p n c w
  unfold Oper.wp execOp
  simp only [hop, List.map_toArray, List.map_cons, List.map_nil, h0, h1, h3, Sem.run_bind, hr, Result.andThen_ok, Sem.run_pure]
  exact hK' _ _ h
end Go.Proofs.YtfoifdhcelcgiaaGreatDoor

/- A draft at a set: the next operation. -/
namespace Go.Proofs.YtfoifdhcelcgiaaGreatDoor
open Go Go.RowKit

theorem OpV.cs_depth {o : OpV} (ho : o.Ok) (p : Option Addr) (c : Nat) (k : Int) : (o.cs p c).toArray.setIfInBounds 36 (.int .i64 k) = ((⟨o.d, o.author, k, o.preds⟩ : OpV).cs p c).toArray := by
  apply Array.ext'
  simp only [Array.toList_setIfInBounds]
  unfold OpV.cs
  rw [List.set_append_right _ _ (by rw [Dr.cs_length ho.d]; omega), Dr.cs_length ho.d]
  rfl

end Go.Proofs.YtfoifdhcelcgiaaGreatDoor
