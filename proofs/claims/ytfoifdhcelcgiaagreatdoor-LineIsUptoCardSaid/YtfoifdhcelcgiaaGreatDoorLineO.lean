/-
  line.Order: the names of what is there, in their row.
-/
import Derived.Test.YtfoifdhcelcgiaaGreatDoorLineP
import Derived.Test.YtfoifdhcelcgiaaGreatDoorJl
namespace Go.Proofs.YtfoifdhcelcgiaaGreatDoor
open Go Go.RowKit Go.Shelf Go.Sort

def dkv (x : Nm × Int) : Value × Value := (idv x.1, .int .i64 x.2)
def dAt (D : List (Nm × Int)) (n : Nm) : Int := ((D.find? fun x => decide (x.1 = n)).map (·.2)).getD 0
theorem hasMap.lookD {w : World} {m : Nat} {D : List (Nm × Int)} (h : hasMap Tryz.prog 31 w m (D.map dkv)) {n : Nm} (hn : n.length = 32) :
    (Instr.lookup 70 (.map (some m)) (idv n) false).run Tryz.prog w = .ok (.int .i64 (dAt D n)) w := by
  obtain ⟨kl, hkey⟩ := idKeyOf n hn
  rcases h.look idLaw Tryz.underlying70 ((info_two intZero).1 w) hkey false with ⟨hno, hrun⟩ | ⟨v, hv, hrun⟩
  · have h1 : D.find? (fun x => decide (x.1 = n)) = none := by
      cases he : D.find? (fun x => decide (x.1 = n)) with
      | none => rfl
      | some e =>
        have h2 := List.mem_of_find?_eq_some he
        have h3 : e.1 = n := by simpa using List.find?_some he
        subst h3
        exact absurd (List.mem_map.2 ⟨e, h2, rfl⟩) (hno (.int .i64 e.2))
    rw [hrun, dAt, h1]
    rfl
  · obtain ⟨e, he, hkv⟩ := List.mem_map.1 hv
    have h1 : e.1 = n := idv_inj (Prod.mk.inj hkv).1
    subst h1
    have hnd : (D.map (·.1)).Nodup := by
      have := h.nodup
      rw [List.map_map] at this
      have h4 : (D.map ((·.1) ∘ dkv)) = (D.map (·.1)).map idv := by rw [List.map_map]; rfl
      rw [h4] at this
      exact List.Pairwise.of_map idv (fun a b h e => h (congrArg idv e)) this
    have h2 : D.find? (fun x => decide (x.1 = e.1)) = some e := find_mem hnd he
    rw [hrun, dAt, h2, ← (Prod.mk.inj hkv).2]
    rfl

/-! ### the closure -/
set_option maxRecDepth 100000 in
set_option maxHeartbeats 8000000 in
theorem orderfn_exact (mD m1 : Nat) (D : List (Nm × Int)) (hD : ∀ n, -1000000000 ≤ dAt D n ∧ dAt D n ≤ 1000000000) (x y : Nm) (hx : x.length = 32) (hy : y.length = 32) (w : World) (hc : w.cell? ⟨m1, 0, none⟩ = some (.map (some mD))) (hm : hasMap Tryz.prog 31 w mD (D.map dkv)) :
    Calls Tryz.prog 40 #[idv x, idv y, .pointer (some ⟨m1, 0, none⟩)] w fun e w' => e = .returned (.int .i64 (cfN (dAt D) x y)) ∧ ∃ q os, w' = grow (w.drewN q) os := by
  obtain ⟨_, hid⟩ := info_two idInfo
  have hm1 : m1 < w.heap.size := World.block_lt_of_cell? w _ hc
  obtain ⟨w1, hw1⟩ : ∃ w1, w1 = (w.alloc (.cells (bcs x).toArray 31)).alloc (.cells (bcs y).toArray 31) := ⟨_, rfl⟩
  have hb1 : Below w.heap.size w w1 := by rw [hw1]; exact ((Below.refl _ w).alloc (Nat.le_refl _) _).alloc (by simp) _
  have HI := Lib.hid hid
  have HX := Lib.hid hx
  have HY := Lib.hid hy
  have HCX := Lib.hid (show cellsAt w1 w.heap.size 0 (bcs x) by
    rw [hw1]
    exact cellsAt.of_block (by simpa using cellsAt_new w (bcs x).toArray 31) ((MapKept.heap_alloc _ _).2 _ (by simp)))
  have HCY := Lib.hid (show cellsAt w1 (w.heap.size + 1) 0 (bcs y) by
    rw [hw1]
    simpa using cellsAt_new (w.alloc (.cells (bcs x).toArray 31)) (bcs y).toArray 31)
  have HM1 := Lib.hid (hm.of_block (hb1.block _ hm.lt))
  have HC1 := Lib.hid ((hb1.cell (p := ⟨m1, 0, none⟩) hm1).trans hc)
  have HW1 := Lib.hid hw1
  have HDD := Lib.hid hD
  clear hid hx hy hb1 hc hm hD
  go_enter Tryz.func40, Tryz.ntmps40
  go_upto_region 1 with (first
    | (refine wpList_boxAgg _ rfl 31 _ rfl (bcs x).toArray (by rfl) ?_)
    | (refine wpList_boxAgg _ rfl 31 _ rfl (bcs y).toArray (by rfl) ?_))
  rw [show (w.alloc (.cells (bcs x).toArray 31)).alloc (.cells (bcs y).toArray 31) = w1 from hw1.symm]
  try rw [World.size_alloc]
  clear hw1
  obtain ⟨k4, hk4⟩ : ∃ k, k = w.heap.size := ⟨_, rfl⟩
  rw [← hk4] at HCX HCY ⊢
  obtain ⟨dx, hdx⟩ : ∃ d, d = dAt D x := ⟨_, rfl⟩
  obtain ⟨dy, hdy⟩ : ∃ d, d = dAt D y := ⟨_, rfl⟩
  have hdx1 := HDD.out x
  have hdy1 := HDD.out y
  have HLX := Lib.hid (show ∀ wz, wz.heap = w1.heap → (Instr.lookup 70 (.map (some mD)) (idv x) false).run Tryz.prog wz = .ok (.int .i64 dx) wz from fun wz e => by
    rw [hdx]
    exact (HM1.out.of_block (by rw [e])).lookD HX.out)
  have HLY := Lib.hid (show ∀ wz, wz.heap = w1.heap → (Instr.lookup 70 (.map (some mD)) (idv y) false).run Tryz.prog wz = .ok (.int .i64 dy) wz from fun wz e => by
    rw [hdy]
    exact (HM1.out.of_block (by rw [e])).lookD HY.out)
  rw [← hdx] at hdx1
  rw [← hdy] at hdy1
  have HCF := Lib.hid (show cfN (dAt D) x y = if dx ≠ dy then dx - dy else cmpB x y by rw [hdx, hdy]; rfl)
  clear hdx hdy hk4
  refine wp_region_noPanic ?_
  refine wp_region_till 6 (fun w' => w' = w1.drew) (by kernel_rfl) (by kernel_rfl) ?_
  obtain ⟨wA, hwA⟩ : ∃ wV, wV = w1.drew := ⟨_, rfl⟩
  have HWA := Lib.hid hwA
  rw [← hwA]
  have HSA := Lib.hid (rfl : wA = wA)
  clear hwA
  go_simp
  have HEA := Lib.hid (show wA.heap = w1.heap by rw [HWA.out]; rfl)
  have HCA := Lib.hid (show wA.cell? ⟨m1, 0, none⟩ = some (.map (some mD)) from (World.cell?_of_block (a := ⟨m1, 0, none⟩) (by rw [HEA.out])).trans HC1.out)
  have HXA := Lib.hid (show cellsAt wA k4 0 (bcs x) from HCX.out.of_block (by rw [HEA.out]))
  have HYA := Lib.hid (show cellsAt wA (k4 + 1) 0 (bcs y) from HCY.out.of_block (by rw [HEA.out]))
  refine Till.load 0 70 _ ⟨m1, 0, none⟩ (.map (some mD)) rfl rfl rfl rfl (by kernel_rfl) (NoPanic.noFrame _) HSA.out (fun w' hw' => by rw [hw']; exact run_loadVar_one Tryz.underlying70 rfl HCA.out) ?_
  go_simp
  refine Till.load 1 31 _ ⟨k4, 0, none⟩ (idv x) rfl rfl rfl rfl (by kernel_rfl) (NoPanic.noFrame _) HSA.out (fun w' hw' => by rw [hw']; exact run_loadAgg Tryz.underlying31 rfl (by rw [HI.out, bcs_length, HX.out]) HXA.out) ?_
  go_simp
  refine Till.look 2 70 _ _ false (.map (some mD)) (idv x) _ rfl rfl rfl (by rfl) (by rfl) (by kernel_rfl) (NoPanic.noFrame _) HSA.out (fun w' hw' => by rw [hw']; exact HLX.out _ HEA.out) ?_
  go_simp
  refine Till.load 3 70 _ ⟨m1, 0, none⟩ (.map (some mD)) rfl rfl rfl rfl (by kernel_rfl) (NoPanic.noFrame _) HSA.out (fun w' hw' => by rw [hw']; exact run_loadVar_one Tryz.underlying70 rfl HCA.out) ?_
  go_simp
  refine Till.load 4 31 _ ⟨k4 + 1, 0, none⟩ (idv y) rfl rfl rfl rfl (by kernel_rfl) (NoPanic.noFrame _) HSA.out (fun w' hw' => by rw [hw']; exact run_loadAgg Tryz.underlying31 rfl (by rw [HI.out, bcs_length, HY.out]) HYA.out) ?_
  go_simp
  refine Till.look 5 70 _ _ false (.map (some mD)) (idv y) _ rfl rfl rfl (by rfl) (by rfl) (by kernel_rfl) (NoPanic.noFrame _) HSA.out (fun w' hw' => by rw [hw']; exact HLY.out _ HEA.out) ?_
  go_simp
  refine Till.tail _ rfl rfl (by kernel_rfl) (by kernel_rfl) ?_
  by_cases hne : dx = dy
  · have hb : (dx != dy) = false := by simp [hne]
    go_wp2
    refine NoPanic.normal ?_
    clear hb
    have HCP := Lib.hid (opcmp_exact x y HX.out HY.out wA)
    go_wp2_with (first
      | (refine wpList_loadAgg _ rfl 31 _ rfl _ Tryz.underlying31 rfl k4 0 (by rfl) (bcs x) (by rw [HI.out, bcs_length, HX.out]) HXA.out ?_)
      | (refine wpList_loadAgg _ rfl 31 _ rfl _ Tryz.underlying31 rfl (k4 + 1) 0 (by rfl) (bcs y) (by rw [HI.out, bcs_length, HY.out]) HYA.out ?_)
      | (go_at_call 41; refine HCP.out.mono ?_; rintro e w3 ⟨rfl, hw3⟩))
    go_ret
    exact ⟨by rw [HCF.out, if_neg (fun h => h hne)]; rfl, 2, _, by
      rw [HWA.out, HW1.out]
      simp only [alloc_eq_grow, drew_grow, grow_grow]
      rfl⟩
  · have hb : (dx != dy) = true := by simp [hne]
    go_wp2
    refine NoPanic.normal ?_
    go_upto_region 2 with fail
    clear hb
    refine wp_region_noPanic ?_
    refine wp_region_till 6 (fun w' => w' = wA.drew) (by kernel_rfl) (by kernel_rfl) ?_
    obtain ⟨wB, hwB⟩ : ∃ wV, wV = wA.drew := ⟨_, rfl⟩
    have HWB := Lib.hid hwB
    rw [← hwB]
    have HSB := Lib.hid (rfl : wB = wB)
    clear hwB
    go_simp
    have HEB := Lib.hid (show wB.heap = w1.heap by rw [HWB.out, ← HEA.out]; rfl)
    have HCB := Lib.hid (show wB.cell? ⟨m1, 0, none⟩ = some (.map (some mD)) from (World.cell?_of_block (a := ⟨m1, 0, none⟩) (by rw [HEB.out])).trans HC1.out)
    have HXB := Lib.hid (show cellsAt wB k4 0 (bcs x) from HCX.out.of_block (by rw [HEB.out]))
    have HYB := Lib.hid (show cellsAt wB (k4 + 1) 0 (bcs y) from HCY.out.of_block (by rw [HEB.out]))
    refine Till.load 0 70 _ ⟨m1, 0, none⟩ (.map (some mD)) rfl rfl rfl rfl (by kernel_rfl) (NoPanic.noFrame _) HSB.out (fun w' hw' => by rw [hw']; exact run_loadVar_one Tryz.underlying70 rfl HCB.out) ?_
    go_simp
    refine Till.load 1 31 _ ⟨k4, 0, none⟩ (idv x) rfl rfl rfl rfl (by kernel_rfl) (NoPanic.noFrame _) HSB.out (fun w' hw' => by rw [hw']; exact run_loadAgg Tryz.underlying31 rfl (by rw [HI.out, bcs_length, HX.out]) HXB.out) ?_
    go_simp
    refine Till.look 2 70 _ _ false (.map (some mD)) (idv x) _ rfl rfl rfl (by rfl) (by rfl) (by kernel_rfl) (NoPanic.noFrame _) HSB.out (fun w' hw' => by rw [hw']; exact HLX.out _ HEB.out) ?_
    go_simp
    refine Till.load 3 70 _ ⟨m1, 0, none⟩ (.map (some mD)) rfl rfl rfl rfl (by kernel_rfl) (NoPanic.noFrame _) HSB.out (fun w' hw' => by rw [hw']; exact run_loadVar_one Tryz.underlying70 rfl HCB.out) ?_
    go_simp
    refine Till.load 4 31 _ ⟨k4 + 1, 0, none⟩ (idv y) rfl rfl rfl rfl (by kernel_rfl) (NoPanic.noFrame _) HSB.out (fun w' hw' => by rw [hw']; exact run_loadAgg Tryz.underlying31 rfl (by rw [HI.out, bcs_length, HY.out]) HYB.out) ?_
    go_simp
    refine Till.look 5 70 _ _ false (.map (some mD)) (idv y) _ rfl rfl rfl (by rfl) (by rfl) (by kernel_rfl) (NoPanic.noFrame _) HSB.out (fun w' hw' => by rw [hw']; exact HLY.out _ HEB.out) ?_
    go_simp
    refine Till.tail _ rfl rfl (by kernel_rfl) (by kernel_rfl) ?_
    have hwr : IntKind.i64.wrap (dx - dy) = dx - dy := wrap_id _ (by omega) (by omega)
    go_wp2
    refine NoPanic.normal ?_
    go_wp2
    go_ret
    exact ⟨by rw [HCF.out, if_pos hne]; rfl, 2, _, by
      rw [HWB.out, HWA.out, HW1.out]
      simp only [alloc_eq_grow, drew_grow, grow_grow]
      rfl⟩

/-! ### the walk -/
theorem Owns.wide {w : World} {base : Nat} {e : TypeId} {size n : Nat} {v : Value} {xs : List Value} (h : Owns w base e size v n xs) (hs : 1 < size) : w.ownsRow base e size v n xs := by
  refine ⟨h.1, ?_⟩
  rcases h.2 with h0 | ⟨g, cap, cur, fz, h1, h2, h3, h4, h5⟩
  · exact .inl h0
  · rw [h4.2 hs] at h3
    exact .inr ⟨g, cap, cur, h1, h2, h3, h5⟩
theorem id32_map : ∀ {X : List Nm} (_ : ∀ x ∈ X, x.length = 32), ∃ Y : List Id32, Y.map (·.1) = X
  | [], _ => ⟨[], rfl⟩
  | x :: r, h => by
    obtain ⟨Y, hY⟩ := id32_map (X := r) (fun y hy => h y (by simp [hy]))
    exact ⟨⟨x, h x (by simp)⟩ :: Y, by simp [hY]⟩
def cf32 (d : Nm → Int) (x y : Id32) : Int := cfN d x.1 y.1
theorem cf32_swo (d : Nm → Int) : SWO (ltOf (cf32 d)) where
  irrefl x := (cfN_swo d).irrefl x.1
  trans x y z := (cfN_swo d).trans x.1 y.1 z.1
  ntrans x y z := (cfN_swo d).ntrans x.1 y.1 z.1
theorem cf32_total (d : Nm → Int) (x y : Id32) (h1 : ltOf (cf32 d) x y = false) (h2 : ltOf (cf32 d) y x = false) : x = y := Subtype.ext (cfN_total d x.1 y.1 h1 h2)
def osort (d : Nm → Int) (l : List Id32) : List Id32 := l.mergeSort fun x y => !(ltOf (cf32 d) y x)
theorem osort_pairwise (d : Nm → Int) (l : List Id32) : (osort d l).Pairwise fun x y => ltOf (cf32 d) y x = false := by
  have := List.pairwise_mergeSort (le := fun x y : Id32 => !(ltOf (cf32 d) y x))
    (fun a b c h1 h2 => by
      simp only [Bool.not_eq_true'] at h1 h2 ⊢
      exact (cf32_swo d).ntrans c b a h2 h1)
    (fun a b => by
      rw [Bool.or_eq_true, Bool.not_eq_true', Bool.not_eq_true']
      by_cases h : ltOf (cf32 d) b a = true
      · refine .inr ?_
        rw [← Bool.not_eq_true]
        intro h2
        have h3 := (cf32_swo d).trans a b a h2 h
        rw [(cf32_swo d).irrefl a] at h3
        cases h3
      · exact .inl (by simpa using h)) l
  exact this.imp (by simp)
theorem osort_names (d : Nm → Int) (l : List Id32) : ((osort d l).map (·.1)).Perm (l.map (·.1)) ∧ ((osort d l).map (·.1)).Pairwise fun x y => ltOf (cfN d) y x = false :=
  ⟨(List.mergeSort_perm _ _).map _, List.pairwise_map.2 (osort_pairwise d l)⟩
/-- the depths of some names, in a map -/
def depsOf (l : List NOp) (X : List Nm) : List (Nm × Int) := X.map fun x => (x, depAt l x)
theorem dAt_depsOf (l : List NOp) (X : List Nm) {n : Nm} (hn : n ∈ X) : dAt (depsOf l X) n = depAt l n := by
  unfold dAt depsOf
  induction X with
  | nil => simp at hn
  | cons a r ih =>
    simp only [List.map_cons, List.find?_cons]
    by_cases h : a = n
    · subst h
      simp
    · simp only [h, decide_false]
      exact ih ((List.mem_cons.1 hn).resolve_left (fun e => h e.symm))
theorem dAt_bound {D : List (Nm × Int)} (h : ∀ x ∈ D, -1000000000 ≤ x.2 ∧ x.2 ≤ 1000000000) (n : Nm) : -1000000000 ≤ dAt D n ∧ dAt D n ≤ 1000000000 := by
  unfold dAt
  cases he : D.find? (fun x => decide (x.1 = n)) with
  | none => simp
  | some e => exact h e (List.mem_of_find?_eq_some he)

theorem deps_names {l : List NOp} (hd : (namesOf l).Nodup) {X : List Nm} (hX : X.Perm (namesOf l)) {Y : List Id32} (hY : Y.map (·.1) = X) : (osort (dAt (depsOf l X)) Y).map (·.1) = namesOf (rowL l) := by
  obtain ⟨h1, h2⟩ := osort_names (dAt (depsOf l X)) Y
  rw [hY] at h1
  refine rowL_names hd (h1.trans hX) ((List.Pairwise.and_mem.1 h2).imp (fun {x y} hh => ?_))
  obtain ⟨hx, hy, h⟩ := hh
  have ex := dAt_depsOf l X (h1.mem_iff.1 hx)
  have ey := dAt_depsOf l X (h1.mem_iff.1 hy)
  simp only [ltOf, decide_eq_false_iff_not, cfN_lt, ex, ey] at h ⊢
  exact h
theorem deps_bound {s : DS} (h : DInv s) (hb : ∀ e ∈ s.ops, e.2.depth ≤ 9223372036854775807) (hl : s.ops.length ≤ 1000000) (X : List Nm) (hX : ∀ x ∈ X, hasN s.ops x = true) (n : Nm) : -1000000000 ≤ dAt (depsOf s.ops X) n ∧ dAt (depsOf s.ops X) n ≤ 1000000000 :=
  dAt_bound (fun x hx => by
    obtain ⟨y, hy, rfl⟩ := List.mem_map.1 hx
    obtain ⟨e, he, rfl⟩ := there_e (hX y hy)
    have h1 := h.depth_le hb (by omega) he
    show -1000000000 ≤ depAt s.ops e.1 ∧ depAt s.ops e.1 ≤ 1000000000
    rw [depAt_in h.nd1 he]
    omega) n
theorem deps_snoc (l : List NOp) (X : List Nm) (x : Nm) : (depsOf l (X ++ [x])).map dkv = (depsOf l X).map dkv ++ [(idv x, .int .i64 (depAt l x))] := by simp [depsOf, dkv]
theorem deps_fresh (l : List NOp) {X : List Nm} {x : Nm} (hx : x ∉ X) (v : Value) : (idv x, v) ∉ (depsOf l X).map dkv := fun hv => by
  simp only [depsOf, List.map_map, List.mem_map] at hv
  obtain ⟨y, hy, e⟩ := hv
  have : idv y = idv x := (Prod.mk.inj e).1
  rw [idv_inj this] at hy
  exact hx hy
theorem take_fresh {X : List Nm} (h : X.Nodup) {n : Nat} {x : Nm} (ht : X.take (n + 1) = X.take n ++ [x]) : x ∉ X.take n := by
  have h1 : (X.take (n + 1)).Nodup := (List.take_sublist _ _).nodup h
  rw [ht] at h1
  intro hx
  exact (List.nodup_append.1 h1).2.2 x hx x (by simp) rfl

set_option maxRecDepth 100000 in
set_option maxHeartbeats 16000000 in
theorem order_any (b mo mw mt : Nat) (B : Nat → Prop) (O W : List E3) (T : List (Nm × Nat)) (w : World) (h : DagSet w b mo mw mt B O W T) (hI : DInv ⟨O.map E3.ent, W.map E3.ent⟩) (hL : O.length ≤ 1000000) :
    Calls Tryz.prog 10 #[.pointer (some ⟨b, 0, none⟩)] w fun e w' => ∃ v, e = .returned v ∧ Owns w' w.heap.size 31 32 v (namesOf (rowL (O.map E3.ent))).length (pcs (namesOf (rowL (O.map E3.ent)))) ∧ Below w.heap.size w w' := by
  have hmm := @run_makeMap Tryz.prog
  obtain ⟨hz, hid⟩ := info_two idInfo
  obtain ⟨hzo, _⟩ := info_two opZero
  have HZ := Lib.hid hz
  have HI := Lib.hid hid
  have HZO := Lib.hid hzo
  have HD := Lib.hid h
  have HIN := Lib.hid hI
  clear hz hid hzo h hI
  go_enter Tryz.func10, Tryz.ntmps10
  go_upto_region 2 with fail
  clear hmm
  obtain ⟨mD, hmD⟩ : ∃ k, k = w.heap.size := ⟨_, rfl⟩
  obtain ⟨m1, hm1⟩ : ∃ k, k = w.heap.size + 1 := ⟨_, rfl⟩
  obtain ⟨w1, hw1⟩ : ∃ w1, w1 = (w.alloc (.map #[] 0)).alloc (.cells #[.map (some mD)] 70) := ⟨_, rfl⟩
  have hb1 : Below w.heap.size w w1 := by rw [hw1]; exact ((Below.refl _ w).alloc (Nat.le_refl _) _).alloc (by simp) _
  have HM1 := Lib.hid (show hasMap Tryz.prog 31 w1 mD ((depsOf (O.map E3.ent) []).map dkv) by
    rw [hw1, hmD]
    exact (hasMap_made Tryz.prog 31 w).of_block ((MapKept.heap_alloc _ _).2 _ (by simp)))
  have HV1 := Lib.hid (show w1.heap[m1]? = some (.cells #[.map (some mD)] 70 (0, 0)) by rw [hw1, hm1]; exact heap_alloc2 _ _ _)
  have hz1 : w1.heap.size = w.heap.size + 2 := by rw [hw1]; simp
  rw [← hm1, ← hmD, ← hw1]
  have hmm : mD < m1 ∧ w.heap.size ≤ mD ∧ m1 < w1.heap.size := by omega
  have HB1 := Lib.hid hb1
  obtain ⟨X, hX⟩ : ∃ X, X = nsort (O.map (·.n)) := ⟨_, rfl⟩
  have HXM := Lib.hid (show ∀ x ∈ X, x ∈ O.map (·.n) from fun x hx => by rw [hX] at hx; exact nsort_mem.1 hx)
  have HXP := Lib.hid (show X.Perm (O.map (·.n)) from by rw [hX]; exact nsort_perm _)
  have hcn := dnames_any b mo mw mt B O W T w1 (HD.out.under hb1) (by omega)
  rw [← hX] at hcn
  have HCN := Lib.hid hcn
  have HX32 := Lib.hid (show ∀ x ∈ X, x.length = 32 from fun x hx => by
    obtain ⟨e, he, rfl⟩ := List.mem_map.1 (HXM.out x hx)
    exact (HD.out.okO e he).len)
  have HXH := Lib.hid (show ∀ x ∈ X, hasN (O.map E3.ent) x = true from fun x hx => (hasN_mem O x).2 (HXM.out x hx))
  have HND := Lib.hid (show X.Nodup from HXP.out.nodup_iff.2 (by
    have := HIN.out.nd1
    rw [names_ent]
    exact this))
  have hXl : X.length ≤ 1000000 := by rw [HXP.out.length_eq, List.length_map]; exact hL
  clear hX hcn hw1 hmD hm1 hb1
  go_upto_region 3 with (go_at_call 37; refine HCN.out.mono ?_; rintro e w2 ⟨vX, rfl, hoX, hb2⟩; obtain ⟨pX, cX, rfl⟩ := hoX.form)
  have hz2 := hb2.size
  have HO2 := Lib.hid hoX
  have HM2 := Lib.hid (HM1.out.of_block (hb2.block _ HM1.out.lt))
  have HV2 := Lib.hid ((hb2.block m1 (by omega)).trans HV1.out)
  have HB2 := Lib.hid (HB1.out.trans (hb2.mono (by omega)))
  clear hb2 hoX
  go_wp2_with fail
  go_loopw [14] (fun i wr => ∃ n : Nat, n ≤ X.length ∧ i = .int .i64 n ∧ w2.heap.size ≤ wr.heap.size ∧ Hid (hasMap Tryz.prog 31 wr mD ((depsOf (O.map E3.ent) (X.take n)).map dkv)) ∧ Hid (wr.heap[m1]? = some (.cells #[.map (some mD)] 70 (0, 0))) ∧ Hid (Owns wr w1.heap.size 31 32 (.slice pX X.length cX) X.length (pcs X)) ∧ Hid (Below w.heap.size w wr)) (fun i _ => X.length - (intOf i).toNat)
  case atStart => exact ⟨0, by omega, rfl, Nat.le_refl _, HM2, HV2, HO2, HB2⟩
  case round =>
    obtain ⟨n, hn1, rfl, hzr, HM, HV, HO, HB⟩ := hrel
    by_cases hlt : n < X.length
    · have HSX := Lib.hid HO.out.srcOf
      have HDr := Lib.hid (HD.out.under HB.out)
      obtain ⟨xx, gxx, oxx, hx1, hx2, hx3, hxp, hx4⟩ := pred_at HSX.out.at_ HX32.out hlt
      have hxpx := hxp
      clear hxp
      have hglx := bcs_at_lt hx4 hx3
      have HLx := Lib.hid hx3
      have HMx := Lib.hid (List.mem_of_getElem? hx1)
      have HEx := Lib.hid hx1
      have HTx := Lib.hid hx2
      have HZx := Lib.hid (show (fillB [] 32).size = (bcs xx).toArray.size by rw [show (bcs xx).toArray.size = (bcs xx).length from rfl, bcs_length, hx3]; rfl)
      have HCx := Lib.hid (show cellsAt wr gxx (oxx + n * 32) (bcs xx) from hx4)
      have HHx := Lib.hid (HXH.out xx HMx.out)
      clear hx1 hx2 hx3 hx4 hglx
      have HPXx := Lib.hid hxpx
      subst hxpx
      go_upto_region 6 with (first
        | (refine wpList_loadAgg _ rfl 31 _ rfl _ Tryz.underlying31 rfl gxx (oxx + n * 32) (by rfl) (bcs xx) (by rw [HI.out, bcs_length, HLx.out]) HCx.out ?_)
        | (refine wpList_allocZ _ rfl 31 rfl _ HZ.out ?_)
        | (refine wpList_storeNew _ wr rfl 31 _ _ rfl (fillB [] 32) rfl (by rfl) (bcs xx).toArray (by rfl) (by rw [HI.out, List.size_toArray, bcs_length, HLx.out]) HZx.out (by simpa using bcs_one xx) ?_))
      obtain ⟨w6x, hw6x⟩ : ∃ w6, w6 = wr.alloc (.cells (bcs xx).toArray 31) := ⟨_, rfl⟩
      rw [← hw6x]
      obtain ⟨kx, hkx⟩ : ∃ k, k = wr.heap.size := ⟨_, rfl⟩
      rw [← hkx]
      have hb6x : Below wr.heap.size wr w6x := by rw [hw6x]; exact (Below.refl _ wr).alloc (Nat.le_refl _) _
      have HKKx := Lib.hid (show cellsAt w6x kx 0 (bcs xx) by rw [hw6x, hkx]; simpa using cellsAt_new wr (bcs xx).toArray 31)
      have hz6x : kx < w6x.heap.size := by rw [hw6x, hkx]; simp
      have hkrx : wr.heap.size ≤ kx := by omega
      have HB6x := Lib.hid hb6x
      have HGx := Lib.hid (get_hit (HDr.out.under hb6x) HIN.out HLx.out HHx.out)
      have hz6rx := hb6x.size
      clear hw6x hkx hb6x
      go_upto_region 7 with (first
        | (refine wpList_loadAgg _ rfl 31 _ rfl _ Tryz.underlying31 rfl kx 0 (by rfl) (bcs xx) (by rw [HI.out, bcs_length, HLx.out]) HKKx.out ?_)
        | (go_at_call 38; refine HGx.out.mono ?_; rintro e w7x ⟨ox, px, cx, hthx, rfl, hownx, hb7x⟩)
        | (refine wpList_allocZ _ rfl 46 rfl _ HZO.out ?_)
        | (refine wpList_storeNew _ w7x rfl 46 _ _ rfl (zeroOp.cs none 0).toArray rfl (by rfl) (ox.cs px cx).toArray (by rfl) (by rw [opInfo, List.size_toArray, OpV.cs_length hthx.ok]) (show 38 = (ox.cs px cx).toArray.size by rw [List.size_toArray, OpV.cs_length hthx.ok]) (by simpa using OpV.cs_one ox px cx) ?_))
      have HTHx := Lib.hid hthx
      obtain ⟨w8x, hw8x⟩ : ∃ w8, w8 = w7x.alloc (.cells (ox.cs px cx).toArray 46) := ⟨_, rfl⟩
      rw [← hw8x]
      obtain ⟨qx, hqx⟩ : ∃ k, k = w7x.heap.size := ⟨_, rfl⟩
      rw [← hqx]
      have hb8x : Below w7x.heap.size w7x w8x := by rw [hw8x]; exact (Below.refl _ _).alloc (Nat.le_refl _) _
      have hz7x := hb7x.size
      have HRx := Lib.hid (show w8x.heap[qx]? = some (.cells (ox.cs px cx).toArray 46 (0, 0)) by rw [hw8x, hqx]; exact (MapKept.heap_alloc _ _).1)
      have HQx := Lib.hid (show cellsAt w8x qx 0 (ox.cs px cx) by rw [hw8x, hqx]; simpa using cellsAt_new w7x (ox.cs px cx).toArray 46)
      have hz8x : qx < w8x.heap.size := by rw [hw8x, hqx]; simp
      have hq7x : w7x.heap.size ≤ qx := by omega
      have hbbx : Below w6x.heap.size w6x w8x := hb7x.trans (hb8x.mono hz7x)
      have hz68x := hbbx.size
      have HB68x := Lib.hid hbbx
      have HBXx := Lib.hid (HB6x.out.trans (hbbx.mono HB6x.out.size))
      have HKx := Lib.hid (show cellsAt w8x kx 0 (bcs xx) from HKKx.out.of_block (hbbx.block _ hz6x))
      have HOWx := Lib.hid (hownx.under hb8x)
      have hoglx : ∀ g, (Value.slice px ox.preds.length cx).ownBlock = some g → w6x.heap.size ≤ g ∧ g < qx := fun g hg => ⟨(hownx.lt hg).1, Nat.lt_of_lt_of_le (hownx.lt hg).2 hq7x⟩
      have HOGx := Lib.hid hoglx
      clear hw8x hqx hb8x hbbx hb7x hownx hthx hoglx
      have HM8 := Lib.hid (HM.out.of_block (HBXx.out.block _ HM.out.lt))
      have HV8 := Lib.hid ((HBXx.out.block m1 (by omega)).trans HV.out)
      have HO8 := Lib.hid (HO.out.under HBXx.out)
      obtain ⟨kl, hkl⟩ := idKeyOf xx HLx.out
      have HKL := Lib.hid hkl
      clear hkl
      have hc1 : w8x.cell? ⟨m1, 0, none⟩ = some (.map (some mD)) := by rw [cell_of_row _ _ _ _ _ _ HV8.out]; rfl
      have hc2 := (OpV.cs_at HTHx.out.ok HQx.out).2.1
      have HDEP := Lib.hid (HTHx.out.depAt)
      go_wp2_with (first
        | (refine wpList_loadAgg _ rfl 31 _ rfl _ Tryz.underlying31 rfl kx 0 (by rfl) (bcs xx) (by rw [HI.out, bcs_length, HLx.out]) HKx.out ?_)
        | (at_mapUpdate; refine wpList_store _ rfl _ _ _ 70 rfl 31 3 idLaw Tryz.underlying70 mD ((depsOf (O.map E3.ent) (X.take n)).map dkv) (by rfl) HM8.out (idv xx) (.int .i64 ox.depth) kl (by rfl) (by rfl) HKL.out ?_; intro w9 hg9 hs9 hst9))
      have hz8 := HBXx.out.size
      have HB9 := Lib.hid ((HB.out.trans (HBXx.out.mono HB.out.size)).grown hg9 (by omega) (fun k e => by have := Option.some.inj e; omega))
      have HV9 := Lib.hid ((hg9.block m1 (by omega) (fun e => by have := Option.some.inj e; omega)).trans HV8.out)
      have HO9 := Lib.hid (HO8.out.keep (w' := w9) (fun g hg => hg9.block g (HO8.out.lt hg).2 (fun e => by have := Option.some.inj e; have := (HO8.out.lt hg).1; omega)))
      have HM9 := Lib.hid (show hasMap Tryz.prog 31 w9 mD ((depsOf (O.map E3.ent) (X.take (n + 1))).map dkv) by
        rw [HTx.out, deps_snoc, HDEP.out]
        exact (hst9 _ (.inr ⟨List.Perm.refl _, fun v => deps_fresh _ (take_fresh HND.out HTx.out) v⟩)).perm (List.perm_append_singleton _ _).symm)
      clear hg9 hst9 hc1 hc2
      go_roundw
      case rel => exact ⟨n + 1, by omega, by go_num, by omega, HM9, HV9, HO9, HB9⟩
      case measure => simp [intOf] <;> omega
    · obtain rfl : n = X.length := by omega
      have hml : mD < wr.heap.size := HM.out.lt
      have HDB := Lib.hid (deps_bound HIN.out (fun e he => by
        obtain ⟨e3, he3, rfl⟩ := List.mem_map.1 he
        exact (HD.out.okO e3 he3).ok.dhi) (by simpa using hL) X HXH.out)
      obtain ⟨Y, hY⟩ := id32_map HX32.out
      have hYl : Y.length = X.length := by rw [← hY, List.length_map]
      have HNM := Lib.hid (deps_names HIN.out.nd1 (X := X) (by rw [← names_ent]; exact HXP.out) hY)
      have hrow := HO.out.wide (by omega)
      rw [← hY, ← benc_pcs, List.length_map] at hrow
      have HROW := Lib.hid hrow
      have HMX := Lib.hid (show hasMap Tryz.prog 31 wr mD ((depsOf (O.map E3.ent) X).map dkv) by
        have := HM.out
        rw [List.take_length] at this
        exact this)
      have hKL : ((osort (dAt (depsOf (O.map E3.ent) X)) Y).map (·.1)).length = Y.length := by simp [osort]
      have eg : ∀ args w, (callFunc 40 args).run Tryz.prog w = .ok (.enter 40 args) w := enters_of Tryz.func40 (by kernel_rfl) rfl
      clear hrow
      cases Y with
      | nil =>
        have hX0 : X = [] := by rw [← hY]; rfl
        have hs := AnyF.slices_SortFunc_none Tryz.sortId pX cX (.func (.func 40) #[] #[.pointer (some ⟨m1, 0, none⟩)]) wr
        change Calls Tryz.prog 39 _ _ _ at hs
        subst hX0
        simp only [List.length_nil] at hs ⊢
        go_wp2_with (go_at_call 39; refine hs.mono ?_; rintro e w' ⟨rfl, rfl⟩)
        go_ret
        refine ⟨_, rfl, ?_, HB.out⟩
        have h0 : namesOf (rowL (O.map E3.ent)) = [] := by rw [← HNM.out]; simp [osort]
        rw [h0]
        exact HO.out.down (by omega)
      | cons y0 yr =>
        obtain ⟨g, cap, hpc⟩ := ownsRow_succ HROW.out
        simp only [Value.slice.injEq] at hpc
        obtain ⟨rfl, hlc, rfl⟩ := hpc
        have hrow := HROW.out
        rw [← hYl]
        obtain ⟨hH, hg0, hg1, -⟩ := holdsK_of_owns (enc := benc) benc_length hrow
        have ho : ∀ (m : Nat) (dk : Array Id32) (os : Array Obj) (i : Nat), i < wr.heap.size → i ≠ g → (sortWorldK benc 32 wr g 0 m dk os).heap[i]? = wr.heap[i]? := fun m dk os i hi hne => by
          have h := others_of_sort (enc := benc) (k := 32) (w := wr) (g := g) (m := m) (l' := dk.toList) (os := os) hi hne
          rw [Array.toArray_toList] at h
          exact h
        have hm1g : m1 ≠ g := by omega
        have hmDg : mD ≠ g := by omega
        have hm1l : m1 < wr.heap.size := by omega
        have hcW : ∀ (m : Nat) (dk : Array Id32) (os : Array Obj), (sortWorldK benc 32 wr g 0 m dk os).cell? ⟨m1, 0, none⟩ = some (.map (some mD)) := fun m dk os => by
          have h := World.cell?_of_block (w := wr) (w' := sortWorldK benc 32 wr g 0 m dk os) (a := ⟨m1, 0, none⟩) (ho m dk os m1 hm1l hm1g)
          rw [h, cell_of_row _ _ _ _ _ _ HV.out]
          rfl
        have hcmp : CmpLays Tryz.prog 40 #[.pointer (some ⟨m1, 0, none⟩)] benc 32 (cf32 (dAt (depsOf (O.map E3.ent) X))) g 0 (y0 :: yr).toArray.size wr := by
          intro m os dk _ x y
          have h := orderfn_exact mD m1 _ HDB.out x.1 y.1 x.2 y.2 _ (hcW m dk os) (HMX.out.of_block (ho m dk os mD hml hmDg))
          have e0 : (#[.agg (benc x).toArray, .agg (benc y).toArray] : Array Value) ++ #[.pointer (some ⟨m1, 0, none⟩)] = #[idv x.1, idv y.1, .pointer (some ⟨m1, 0, none⟩)] := rfl
          rw [e0]
          exact h
        have hs := AnyQ.slices_SortFunc_total Tryz.sortId 32 isAggId sizeId benc benc_length (fun x v hv => bcs_one x.1 v hv) (cf32 (dAt (depsOf (O.map E3.ent) X))) (cf32_swo _) 40 #[.pointer (some ⟨m1, 0, none⟩)] g 0 cX (y0 :: yr).toArray wr eg hcmp hH hg1 (by simp only [List.size_toArray]; omega) (cf32_total _)
        change Calls Tryz.prog 39 _ _ _ at hs
        have HH := Lib.hid hH
        have HC := Lib.hid hcmp
        clear hH hcmp
        have hk : (osort (dAt (depsOf (O.map E3.ent) X)) (y0 :: yr)).length = (y0 :: yr).length := by simp [osort]
        simp only [List.size_toArray] at hs
        have HS := Lib.hid hs
        have HK := Lib.hid hk
        have HROW2 := Lib.hid hrow
        clear hs hk hrow hY hYl hKL ho hcW hm1g hmDg hm1l hlt hn1 hml hlc
        go_wp2_with (go_at_call 39; refine HS.out.mono ?_; rintro e w' ⟨rfl, n, os, hw'⟩; have HW' := Lib.hid hw'; clear hw')
        go_ret
        rw [HW'.out]
        refine ⟨_, rfl, ?_, ?_⟩
        · have h1 := owns_of_sort (enc := benc) benc_length HROW2.out HK.out n os
          have h2 := (Owns.of h1).down (b' := w.heap.size) (by omega)
          rw [← HNM.out, ← benc_pcs, List.length_map]
          exact h2
        · exact HB.out.trans ((below_of_sort (l' := osort (dAt (depsOf (O.map E3.ent) X)) (y0 :: yr)) hg1).mono (by omega))
end Go.Proofs.YtfoifdhcelcgiaaGreatDoor
