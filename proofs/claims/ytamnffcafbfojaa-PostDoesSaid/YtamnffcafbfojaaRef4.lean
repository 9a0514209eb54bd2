/-
  POST: the document's Tick and Load; a nil post.
-/
import Derived.Test.YtamnffcafbfojaaRef3
import Derived.Test.YtamnffcafbfojaaLoads
namespace Go.Proofs.Ytamnffcafbfojaa
open Go Go.RowKit

theorem noneSent_any (seq mask : Int) (w : World) : Calls Try.prog 10 #[.pointer none, .int .i64 seq, .int .i64 mask] w fun e w' => e = .returned (.tuple #[]) ∧ w' = w := by
  go_enter Try.func10, Try.ntmps10
  go_wp2
  refine wp_loop_rounds 1 ?_
  rw [rounds_succ]
  go_wp2
  go_end0
  exact ⟨rfl, rfl⟩

theorem noneAcked_any (seq node : Int) (w : World) : Calls Try.prog 11 #[.pointer none, .int .i64 seq, .int .i64 node] w fun e w' => e = .returned (.bool false) ∧ w' = w := by
  go_enter Try.func11, Try.ntmps11
  go_wp2
  go_ret
  exact ⟨rfl, rfl⟩

theorem noneCame_any (x y z : Int) (w : World) : Calls Try.prog 14 #[.pointer none, .int .i64 x, .int .i64 y, .int .i64 z] w fun e w' => e = .returned (.tuple #[]) ∧ w' = w := by
  go_enter Try.func14, Try.ntmps14
  go_wp2
  refine bodyPost_ret (results_none rfl _ _ _) rfl ?_
  exact ⟨rfl, rfl⟩

theorem noneWhere_any (x y : Int) (w : World) : Calls Try.prog 15 #[.pointer none, .int .i64 x, .int .i64 y] w fun e w' => e = .returned (.int .i64 0) ∧ w' = w := by
  go_enter Try.func15, Try.ntmps15
  go_wp2
  go_ret
  exact ⟨rfl, rfl⟩

theorem noneTick_any (w : World) : Calls Try.prog 13 #[.pointer none] w fun e w' => e = .returned (.tuple #[]) ∧ w' = w := by
  go_enter Try.func13, Try.ntmps13
  go_wp2
  refine bodyPost_ret (results_none rfl _ _ _) rfl ?_
  exact ⟨rfl, rfl⟩

theorem noneDues_any (w : World) : Calls Try.prog 12 #[.pointer none] w fun e w' => e = .returned (.slice none 0 0) ∧ w' = w := by
  go_enter Try.func12, Try.ntmps12
  go_wp2
  go_ret
  exact ⟨rfl, rfl⟩

/-! ### Tick -/
def tickN (L : List Dv) (n : Nat) : List Dv := (L.take n).map older ++ L.drop n

theorem tickN_length (L : List Dv) (n : Nat) : (tickN L n).length = L.length := by simp [tickN]; omega

theorem flat_set (L : List Dv) (n : Nat) (hn : n < L.length) (d : Dv) (h1 : d.seq = L[n]!.seq) (h2 : d.to = L[n]!.to) : (L.flatMap lcell).set (n * 3 + 2) (.int .i64 d.age) = (L.set n d).flatMap lcell := by
  induction L generalizing n with
  | nil => simp at hn
  | cons a L ih =>
    cases n with
    | zero =>
      simp at h1 h2
      simp [lcell, h1, h2]
    | succ n =>
      have hn' : n < L.length := by simpa using hn
      have := ih n hn' (by simpa using h1) (by simpa using h2)
      simp only [List.flatMap_cons, List.set_cons_succ]
      rw [List.set_append_right _ _ (by simp [lcell]; omega)]
      have e1 : (n + 1) * 3 + 2 - (lcell a).length = n * 3 + 2 := by simp [lcell]; omega
      rw [e1, this]

theorem tickN_at (L : List Dv) (n : Nat) (hn : n < L.length) : (tickN L n)[n]! = L[n]! := by
  have h2 : n < (tickN L n).length := by rw [tickN_length]; exact hn
  rw [getElem!_pos _ n h2, getElem!_pos _ n hn]
  simp [tickN, List.length_take, Nat.min_eq_left (Nat.le_of_lt hn)]

theorem tickN_succ (L : List Dv) (n : Nat) (hn : n < L.length) : (tickN L n).set n (older L[n]!) = tickN L (n + 1) := by
  unfold tickN
  rw [List.set_append_right _ _ (by simp; omega)]
  have e1 : n - ((L.take n).map older).length = 0 := by simp; omega
  have e2 : L.drop n = L[n] :: L.drop (n + 1) := List.drop_eq_getElem_cons hn
  rw [e1, e2, List.set_cons_zero, List.take_succ_eq_append_getElem hn, getElem!_pos L n hn, List.map_append, List.append_assoc]
  rfl

set_option maxRecDepth 100000 in
set_option maxHeartbeats 1000000 in
theorem rTick_any (mb B : Nat) (vW vC : Value) (L : List Dv) (M : List ((Int × Int) × Int)) (w : World) (h : IsRef w mb B vW vC L M) (hn : L.length ≤ 90000) :
    Calls Try.prog 20 #[.pointer (some ⟨mb, 0, none⟩)] w fun e w' => e = .returned (.tuple #[]) ∧ IsRef w' mb B vW vC (L.map older) M ∧ Below B w w' ∧ TySafe w w' := by
  obtain ⟨pv, capv, rfl⟩ := owns_slice h.wait
  have c0 : w.cell? ⟨mb, 0, none⟩ = some (.slice pv L.length capv) := by simp [World.cell?, h.box]
  have H := Lib.hid h
  clear h
  go_enter Try.func20, Try.ntmps20
  go_wp2
  go_loopw [8] (fun i wr => ∃ n : Nat, n ≤ L.length ∧ i = .int .i64 n ∧ IsRef wr mb B (.slice pv L.length capv) vC (tickN L n) M ∧ Below B w wr ∧ TySafe w wr) (fun i _ => L.length - (intOf i).toNat)
  case atStart => exact ⟨0, by omega, rfl, by simpa [tickN] using H.out, Below.refl _ _, TySafe.refl _⟩
  case round =>
    obtain ⟨n, hn1, rfl, hr, hbr, hts⟩ := hrel
    by_cases hlt : n < L.length
    · obtain ⟨g, rfl⟩ := owns_some H.out.wait (by omega)
      have hw := hr.wait
      rw [tickN_length] at hw
      have hw2 := hr.wait
      have k0 : wr.cell? ⟨mb, 0, none⟩ = some (.slice (some ⟨g, 0, none⟩) L.length capv) := by simp [World.cell?, hr.box]
      have k2 : wr.cell? ⟨g, n * 3 + 2, none⟩ = some (.int .i64 L[n]!.age) := by
        rw [← tickN_at L n hlt]
        have hw3 : wr.ownsRow B tDue 3 (.slice (some ⟨g, 0, none⟩) L.length capv) (tickN L n).length ((tickN L n).flatMap lcell) := hw2
        exact owned_cell (enc := lcell) (fun _ => rfl) hw3 (i := n) (j := 2) (by rw [tickN_length]; exact hlt) (by omega)
      have hfz : wr.frozen? ⟨g, n * 3 + 2, none⟩ = false := by
        rcases hw.2 with ⟨h0, _⟩ | ⟨g', cap', cur, h0, _, hh, _⟩
        · cases h0
        · cases h0; simp [World.frozen?, hh]
      have hgm : g ≠ mb := fun e => ownsRow_ne hw hr.box (by decide) (by rw [← e]; rfl)
      have hgB := (ownsRow_lt hw (g := g) rfl).1
      have hts2 : ∀ v, TySafe w (wr.setCell ⟨g, n * 3 + 2, none⟩ v) := fun v => by
        rcases hw.2 with ⟨h0, _⟩ | ⟨g', cap', cur, h0, _, hh, _⟩
        · cases h0
        · cases h0; exact hts.trans (TySafe.of_set v hh (by decide))
      have H6 := Lib.hid hts2
      have H1 := Lib.hid hr
      have H2 := Lib.hid hbr
      have H3 := Lib.hid hw
      generalize hd : L[n]! = d at k2
      have H5 := Lib.hid hd
      clear hr hbr hw hw2 hd hts hts2
      go_wp2
      go_roundw
      case rel =>
        refine ⟨n + 1, by omega, by go_num, ?_, below_setCell H2.out hgB _, H6.out _⟩
        have hset := flat_set (tickN L n) n (by rw [tickN_length]; exact hlt) (older d) (by rw [tickN_at L n hlt, H5.out]; rfl) (by rw [tickN_at L n hlt, H5.out]; rfl)
        have hts := tickN_succ L n hlt
        rw [H5.out] at hts
        rw [hts] at hset
        have hwr : wrap64 (d.age + 1) = (older d).age := by unfold older; simp only; rw [IntWalk.i64_left]
        rw [hwr]
        refine ⟨(Below.heap_setCell wr ⟨g, n * 3 + 2, none⟩ _ mb (fun e => hgm e.symm)).trans H1.out.box, H1.out.at_, ?_, ownsRow_keep H1.out.came fun b hb => Below.heap_setCell wr ⟨g, n * 3 + 2, none⟩ _ b (fun e => ownsRow_ne2 H3.out H1.out.came (by decide) hb (by rw [show b = g from e]; rfl))⟩
        have hst := (World.ownsRow.stored H3.out (n * 3 + 2) (.int .i64 (older d).age)).1
        rw [hset] at hst
        rw [tickN_length]
        exact hst
      case measure => simp [intOf]; omega
    · obtain rfl : n = L.length := by omega
      go_wp2
      go_end0
      refine ⟨rfl, ?_, hbr, hts⟩
      have : tickN L L.length = L.map older := by simp [tickN]
      rw [this] at hr
      exact hr
/-! ### Load -/
def rstepL (L : List Dv) (i : Nat) (e : Ent) : List Dv := if e.kind = 3 then rsentN L (i + 1) e.mask 5 else L
def rstepM (M : List ((Int × Int) × Int)) (i : Nat) (e : Ent) : List ((Int × Int) × Int) := if e.kind = 2 then rcomes M (e.from_, e.seq) (i + 1) else M
def rloadL (es : List Ent) (L : List Dv) : Nat → List Dv
  | 0 => L
  | n + 1 => rstepL (rloadL es L n) n (es.getD n default)
def rloadM (es : List Ent) (M : List ((Int × Int) × Int)) : Nat → List ((Int × Int) × Int)
  | 0 => M
  | n + 1 => rstepM (rloadM es M n) n (es.getD n default)

theorem sorted_rloadL {L : List Dv} (h : Sorted L) (es : List Ent) : ∀ n, Sorted (rloadL es L n)
  | 0 => h
  | n + 1 => by
    unfold rloadL rstepL
    split
    · exact sorted_rsentN (sorted_rloadL h es n) _ _ 5
    · exact sorted_rloadL h es n

theorem length_rloadL (es : List Ent) (L : List Dv) : ∀ n, (rloadL es L n).length ≤ L.length + 5 * n
  | 0 => by simp [rloadL]
  | n + 1 => by
    have ih := length_rloadL es L n
    unfold rloadL rstepL
    split
    · have := length_rsentN (rloadL es L n) (n + 1) (es.getD n default).mask 5; omega
    · omega

theorem length_rcomes (M : List ((Int × Int) × Int)) (k : Int × Int) (x : Int) : (rcomes M k x).length ≤ M.length + 1 := by
  unfold rcomes
  split <;> simp

theorem length_rloadM (es : List Ent) (M : List ((Int × Int) × Int)) : ∀ n, (rloadM es M n).length ≤ M.length + n
  | 0 => by simp [rloadM]
  | n + 1 => by
    have ih := length_rloadM es M n
    unfold rloadM rstepM
    split
    · have := length_rcomes (rloadM es M n) ((es.getD n default).from_, (es.getD n default).seq) (n + 1); omega
    · omega

theorem perm_rloadL {L W : List Dv} (h : L.Perm W) (es : List Ent) : ∀ n, (rloadL es L n).Perm (loadW es W n)
  | 0 => h
  | n + 1 => by
    unfold rloadL loadW rstepL stepW
    split
    · exact perm_sentN (perm_rloadL h es n) _ _ 5
    · exact perm_rloadL h es n

theorem hasC_reverse (C : List ((Int × Int) × Int)) (k : Int × Int) : hasC C.reverse k = hasC C k := by unfold hasC; rw [List.any_reverse]

theorem rcomes_reverse (C : List ((Int × Int) × Int)) (k : Int × Int) (x : Int) : rcomes C.reverse k x = (comes C k x).reverse := by
  unfold rcomes comes
  rw [hasC_reverse]
  split <;> simp

theorem rloadM_reverse (es : List Ent) (C : List ((Int × Int) × Int)) : ∀ n, rloadM es C.reverse n = (loadC es C n).reverse
  | 0 => rfl
  | n + 1 => by
    unfold rloadM loadC rstepM stepC
    rw [rloadM_reverse es C n]
    split
    · exact rcomes_reverse _ _ _
    · rfl

theorem getC_reverse (C : List ((Int × Int) × Int)) (h : (C.map (·.1)).Nodup) (k : Int × Int) : getC C.reverse k = getC C k := by
  by_cases hk : hasC C k = true
  · unfold hasC at hk
    obtain ⟨c, hc, e⟩ := List.any_eq_true.1 hk
    have e : c.1 = k := by simpa using e
    rw [← e, getC_of h hc]
    exact getC_of (((List.reverse_perm C).map (·.1)).nodup_iff.2 h) (List.mem_reverse.2 hc)
  · have h0 : ∀ c ∈ C, ¬ c.1 = k := fun c hc e => hk (by unfold hasC; exact List.any_eq_true.2 ⟨c, hc, by simpa using e⟩)
    unfold getC
    rw [List.find?_eq_none.2 (fun c hc => by simpa using h0 c (List.mem_reverse.1 hc)), List.find?_eq_none.2 (fun c hc => by simpa using h0 c hc)]

set_option maxRecDepth 100000 in
set_option maxHeartbeats 2000000 in
theorem rLoad_any (mb B : Nat) (vW vC : Value) (L : List Dv) (M : List ((Int × Int) × Int)) (p1 : Option Addr) (cap1 : Nat) (es : List Ent) (w : World) (h : IsRef w mb B vW vC L M) (hE : EntsAt w B p1 es) (hn : es.length ≤ 60) (hL : L.length ≤ 80000) (hM : M.length ≤ 80000) (hs : Sorted L) :
    Calls Try.prog 21 #[.pointer (some ⟨mb, 0, none⟩), .slice p1 es.length cap1] w fun e w' => e = .returned (.tuple #[]) ∧ (∃ vW' vC', IsRef w' mb B vW' vC' (rloadL es L es.length) (rloadM es M es.length)) ∧ Below B w w' ∧ TySafe w w' := by
  obtain ⟨hi, Z, hZ, hZ2⟩ := zero_of (P := Try.prog) entInfo
  have hBw : B ≤ w.heap.size := by have := h.lt; have := h.at_; omega
  have H0 := Lib.hid h
  have H1 := Lib.hid hE
  have H2 := Lib.hid hZ
  have H3 := Lib.hid hZ2
  have H4 := Lib.hid hi
  have HS := Lib.hid hs
  clear h hE hZ hZ2 hi hs
  go_enter Try.func21, Try.ntmps21
  go_wp2
  go_loopw [8] (fun i wr => ∃ (n : Nat) (xW xC : Value), n ≤ es.length ∧ i = .int .i64 n ∧ IsRef wr mb B xW xC (rloadL es L n) (rloadM es M n) ∧ Below B w wr ∧ TySafe w wr) (fun i _ => es.length - (intOf i).toNat)
  case atStart => exact ⟨0, vW, vC, by omega, rfl, H0.out, Below.refl _ _, TySafe.refl _⟩
  case round =>
    obtain ⟨n, xW, xC, hn1, rfl, hr, hbr, hts⟩ := hrel
    by_cases hlt : n < es.length
    · obtain ⟨b, off, rfl, hb, cs, hcs, hec⟩ := H1.out n hlt
      have hcs' : cellsAt wr b (off + n * 73) cs := hcs.of_block (hbr.block b hb)
      have HEW : Hid (rloadL es L (n + 1) = rstepL (rloadL es L n) n (es.getD n default)) := rfl
      have HEC : Hid (rloadM es M (n + 1) = rstepM (rloadM es M n) n (es.getD n default)) := rfl
      have hlL := length_rloadL es L n
      have hlM := length_rloadM es M n
      have hsL := sorted_rloadL HS.out es n
      generalize es.getD n default = e at hec HEW HEC
      generalize rloadL es L n = LN at *
      generalize rloadM es M n = MN at *
      have H5 := Lib.hid hec
      have H6 := Lib.hid hcs'
      have k0 : (wr.alloc (.cells cs.toArray 44)).cell? ⟨wr.heap.size, 0, none⟩ = some (.int .i64 e.kind) := new_cell hec.kind
      have k1 : (wr.alloc (.cells cs.toArray 44)).cell? ⟨wr.heap.size, 36, none⟩ = some (.int .i64 e.from_) := new_cell hec.from_
      have k2 : (wr.alloc (.cells cs.toArray 44)).cell? ⟨wr.heap.size, 37, none⟩ = some (.int .i64 e.seq) := new_cell hec.seq
      have k3 : (wr.alloc (.cells cs.toArray 44)).cell? ⟨wr.heap.size, 70, none⟩ = some (.int .i64 e.mask) := new_cell hec.mask
      have hbA : Below wr.heap.size wr (wr.alloc (.cells cs.toArray 44)) := (Below.refl _ wr).alloc (Nat.le_refl _) _
      have hrA := hr.below hbA
      have hBr : B ≤ wr.heap.size := by have := hbr.size; omega
      have hmbr : mb < wr.heap.size := hr.lt
      have HR := Lib.hid hrA
      have HB := Lib.hid (hbr.trans (hbA.mono hBr))
      have HS2 := Lib.hid hsL
      have HT := Lib.hid (hts.trans (TySafe.of_below hbA))
      clear hec hcs hcs' hr hbr hbA hrA hsL hts
      by_cases e3 : e.kind = 3
      · have d3 : (e.kind == 3) = true := by simpa using e3
        have d2 : (e.kind == 2) = false := by simp [e3]
        have HW := Lib.hid (HEW.out.trans (if_pos e3))
        have HC := Lib.hid (HEC.out.trans (if_neg (by omega)))
        clear e3
        go_wp2_with (first
          | (refine wpList_loadAgg _ rfl 44 _ rfl _ Try.underlying44 rfl b (off + n * 73) rfl cs (by rw [H4.out, H5.out.len]) H6.out ?_)
          | (refine wpList_allocZ _ rfl 44 rfl Z H2.out ?_)
          | (refine wpList_storeNew _ wr rfl 44 _ _ rfl Z.cells rfl rfl cs.toArray rfl (by rw [H4.out, List.size_toArray, H5.out.len]) (by rw [H3.out, List.size_toArray, H5.out.len]) (by simpa using H5.out.one) ?_))
        refine (rSent_any mb B _ _ _ _ ((n : Int) + 1) e.mask _ HR.out (by omega) HS2.out).mono ?_
        rintro x w5 ⟨rfl, ⟨yW, hr5⟩, hb5⟩
        have c5 : w5.cell? ⟨wr.heap.size, 0, none⟩ = some (.int .i64 e.kind) := (World.cell?_of_block (a := ⟨wr.heap.size, 0, none⟩) (hb5.block wr.heap.size (by simp) (fun e => by have e : wr.heap.size = mb := e; omega))).trans k0
        have hbB := HB.out.trans (hb5.toBelow (by simp; omega) (by intro i hi e; have e : i = mb := e; have := HR.out.at_; omega))
        have G1 := Lib.hid hr5
        have G2 := Lib.hid hbB
        have G3 := Lib.hid (HT.out.trans (TySafe.of_keeps hb5 HR.out.box))
        clear hr5 hb5 hbB
        go_wp2
        go_roundw
        case rel => exact ⟨n + 1, yW, xC, by omega, by go_num, by rw [HW.out, HC.out]; exact G1.out, G2.out, G3.out⟩
        case measure => simp [intOf]; omega
      have d3 : (e.kind == 3) = false := by simpa using e3
      have HW := Lib.hid (HEW.out.trans (if_neg e3))
      by_cases e2 : e.kind = 2
      · have d2 : (e.kind == 2) = true := by simpa using e2
        have HC := Lib.hid (HEC.out.trans (if_pos e2))
        clear e2 e3
        go_wp2_with (first
          | (refine wpList_loadAgg _ rfl 44 _ rfl _ Try.underlying44 rfl b (off + n * 73) rfl cs (by rw [H4.out, H5.out.len]) H6.out ?_)
          | (refine wpList_allocZ _ rfl 44 rfl Z H2.out ?_)
          | (refine wpList_storeNew _ wr rfl 44 _ _ rfl Z.cells rfl rfl cs.toArray rfl (by rw [H4.out, List.size_toArray, H5.out.len]) (by rw [H3.out, List.size_toArray, H5.out.len]) (by simpa using H5.out.one) ?_))
        refine (rComes_any mb B _ _ _ _ (e.from_, e.seq) ((n : Int) + 1) _ HR.out (by omega)).mono ?_
        rintro x w5 ⟨rfl, ⟨yC, hr5⟩, hb5, ht5⟩
        have G1 := Lib.hid hr5
        have G2 := Lib.hid (HB.out.trans hb5)
        have G3 := Lib.hid (HT.out.trans ht5)
        clear hr5 hb5 ht5
        go_wp2
        go_roundw
        case rel => exact ⟨n + 1, xW, yC, by omega, by go_num, by rw [HW.out, HC.out]; exact G1.out, G2.out, G3.out⟩
        case measure => simp [intOf]; omega
      · have d2 : (e.kind == 2) = false := by simpa using e2
        have HC := Lib.hid (HEC.out.trans (if_neg e2))
        clear e2 e3
        go_wp2_with (first
          | (refine wpList_loadAgg _ rfl 44 _ rfl _ Try.underlying44 rfl b (off + n * 73) rfl cs (by rw [H4.out, H5.out.len]) H6.out ?_)
          | (refine wpList_allocZ _ rfl 44 rfl Z H2.out ?_)
          | (refine wpList_storeNew _ wr rfl 44 _ _ rfl Z.cells rfl rfl cs.toArray rfl (by rw [H4.out, List.size_toArray, H5.out.len]) (by rw [H3.out, List.size_toArray, H5.out.len]) (by simpa using H5.out.one) ?_))
        go_roundw
        case rel => exact ⟨n + 1, xW, xC, by omega, by go_num, by rw [HW.out, HC.out]; exact HR.out, HB.out, HT.out⟩
        case measure => simp [intOf]; omega
    · obtain rfl : n = es.length := by omega
      go_wp2
      go_end0
      exact ⟨rfl, ⟨xW, xC, hr⟩, hbr, hts⟩

/-! ### what waits is the same -/
set_option maxRecDepth 100000 in
set_option maxHeartbeats 2000000 in
theorem same_any (pa pb : Option Addr) (capa capb : Nat) (L : List Dv) (w : World) (ha : SrcAt w pa (L.flatMap lcell)) (hb : SrcAt w pb (L.flatMap lcell)) (hpa : ∀ b off, pa = some ⟨b, off, none⟩ → b < w.heap.size ∧ off = 0) (hpb : ∀ b off, pb = some ⟨b, off, none⟩ → b < w.heap.size ∧ off = 0) (hn : L.length ≤ 100000) :
    Calls Try.prog 22 #[.slice pa L.length capa, .slice pb L.length capb] w fun e w' => e = .returned (.bool true) ∧ Below w.heap.size w w' := by
  have HA := Lib.hid ha
  have HB := Lib.hid hb
  have PA := Lib.hid hpa
  have PB := Lib.hid hpb
  clear ha hb hpa hpb
  go_enter Try.func22, Try.ntmps22
  go_wp2
  go_loopw [14] (fun i wr => ∃ n : Nat, n ≤ L.length ∧ i = .int .i64 n ∧ Below w.heap.size w wr) (fun i _ => L.length - (intOf i).toNat)
  case atStart => exact ⟨0, by omega, rfl, Below.refl _ _⟩
  case round =>
    obtain ⟨n, hn1, rfl, hbr⟩ := hrel
    by_cases hlt : n < L.length
    · have hcell : ∀ (p : Option Addr), SrcAt w p (L.flatMap lcell) → (∀ b off, p = some ⟨b, off, none⟩ → b < w.heap.size ∧ off = 0) → ∃ g, p = some ⟨g, 0, none⟩ ∧ g < w.heap.size ∧ ∀ m, m < 3 → wr.cell? ⟨g, n * 3 + m, none⟩ = some ((lcell L[n]!)[m]!) := fun p hs hp => by
        have hget : ∀ m, m < 3 → (L.flatMap lcell)[n * 3 + m]? = some ((lcell L[n]!)[m]!) := fun m hm => by
          have h1 : ((L.flatMap lcell).drop (n * 3))[m]? = (L.flatMap lcell)[n * 3 + m]? := by rw [List.getElem?_drop]
          rw [← h1, flat_drop, List.drop_eq_getElem_cons hlt, List.flatMap_cons, getElem!_pos L n hlt]
          rw [List.getElem?_append_left (by simpa [lcell] using hm)]
          rcases m with _ | _ | _ | m <;> first | rfl | omega
        obtain ⟨g, off, rfl, _⟩ := hs _ _ (hget 0 (by omega))
        obtain ⟨h1, rfl⟩ := hp g off rfl
        refine ⟨g, rfl, h1, fun m hm => ?_⟩
        obtain ⟨g', off', e, hc⟩ := hs _ _ (hget m hm)
        simp at e
        obtain ⟨rfl, rfl⟩ := e
        rw [Nat.zero_add] at hc
        exact (hbr.cell (p := ⟨g, n * 3 + m, none⟩) h1).trans hc
      obtain ⟨ga, rfl, hga, hca⟩ := hcell pa HA.out PA.out
      obtain ⟨gb, rfl, hgb, hcb⟩ := hcell pb HB.out PB.out
      have c0 : wr.cell? ⟨ga, n * 3, none⟩ = some (.int .i64 L[n]!.seq) := hca 0 (by omega)
      have c1 : wr.cell? ⟨ga, n * 3 + 1, none⟩ = some (.int .i64 L[n]!.to) := hca 1 (by omega)
      have c2 : wr.cell? ⟨ga, n * 3 + 2, none⟩ = some (.int .i64 L[n]!.age) := hca 2 (by omega)
      have hx : ∀ m o, (wr.alloc o).cell? ⟨gb, m, none⟩ = wr.cell? ⟨gb, m, none⟩ := fun m o => World.cell?_of_block (a := ⟨gb, m, none⟩) (Below.heap_alloc wr o gb (by have := hbr.size; omega))
      have d0 : ∀ o, (wr.alloc o).cell? ⟨gb, n * 3, none⟩ = some (.int .i64 L[n]!.seq) := fun o => (hx _ o).trans (hcb 0 (by omega))
      have d1 : ∀ o, (wr.alloc o).cell? ⟨gb, n * 3 + 1, none⟩ = some (.int .i64 L[n]!.to) := fun o => (hx _ o).trans (hcb 1 (by omega))
      have d2 : ∀ o, (wr.alloc o).cell? ⟨gb, n * 3 + 2, none⟩ = some (.int .i64 L[n]!.age) := fun o => (hx _ o).trans (hcb 2 (by omega))
      generalize L[n]! = d at c0 c1 c2 d0 d1 d2
      have H1 := Lib.hid hbr
      clear hcell hca hcb hx hbr
      go_wp2
      go_quiet (fail)
      go_wp2
      go_roundw
      case rel =>
        have hB := H1.out.alloc H1.out.size (.cells #[.int .i64 d.seq, .int .i64 d.to, .int .i64 d.age] 32)
        exact ⟨n + 1, by omega, by go_num, ⟨hB.os, hB.tape, hB.output, hB.size, hB.block⟩⟩
      case measure => simp [intOf]; omega
    · obtain rfl : n = L.length := by omega
      go_wp2
      go_ret
      exact ⟨rfl, hbr⟩
end Go.Proofs.Ytamnffcafbfojaa
