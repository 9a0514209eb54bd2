/-
  POST: the document's Where and Comes.
-/
import Derived.Test.YtamnffcafbfojaaRef
namespace Go.Proofs.Ytamnffcafbfojaa
open Go Go.RowKit

theorem getC_at {M : List ((Int × Int) × Int)} {n : Nat} {k : Int × Int} (hn : n < M.length) (hno : ∀ j, j < n → M[j]!.1 ≠ k) (hk : M[n]!.1 = k) : getC M k = M[n]!.2 := by
  induction M generalizing n with
  | nil => simp at hn
  | cons a M ih =>
    cases n with
    | zero =>
      simp at hk
      simp [getC, hk]
    | succ n =>
      have hn' : n < M.length := by simpa using hn
      have h0 : a.1 ≠ k := by have := hno 0 (by omega); simpa using this
      have h1 := ih hn' (fun j hj => by have := hno (j + 1) (by omega); simpa using this) (by simpa using hk)
      have h2 : (a :: M)[n + 1]! = M[n]! := by simp
      rw [h2, ← h1]
      simp [getC, h0]

theorem getC_no {M : List ((Int × Int) × Int)} {k : Int × Int} (hno : ∀ j, j < M.length → M[j]!.1 ≠ k) : getC M k = 0 := by
  unfold getC
  rw [List.find?_eq_none.2]
  · rfl
  · intro c hc
    obtain ⟨j, hj, rfl⟩ := List.mem_iff_getElem.1 hc
    have := hno j hj
    rw [getElem!_pos M j hj] at this
    simpa using this

theorem hasC_at {M : List ((Int × Int) × Int)} {n : Nat} {k : Int × Int} (hn : n < M.length) (hk : M[n]!.1 = k) : hasC M k = true := by
  unfold hasC
  refine List.any_eq_true.2 ⟨M[n]!, ?_, by simpa using hk⟩
  rw [getElem!_pos M n hn]
  exact List.getElem_mem _

theorem hasC_no {M : List ((Int × Int) × Int)} {k : Int × Int} (hno : ∀ j, j < M.length → M[j]!.1 ≠ k) : hasC M k = false := by
  unfold hasC
  rw [List.any_eq_false]
  intro c hc
  obtain ⟨j, hj, rfl⟩ := List.mem_iff_getElem.1 hc
  have := hno j hj
  rw [getElem!_pos M j hj] at this
  simpa using this

theorem mflat_length (M : List ((Int × Int) × Int)) : (M.flatMap mcell).length = M.length * 3 := by
  induction M with
  | nil => rfl
  | cons a L ih => rw [List.flatMap_cons, List.length_append, ih]; simp [mcell]; omega

set_option maxRecDepth 100000 in
set_option maxHeartbeats 1000000 in
theorem rWhere_any (mb B : Nat) (vW vC : Value) (L : List Dv) (M : List ((Int × Int) × Int)) (k : Int × Int) (w : World) (h : IsRef w mb B vW vC L M) (hn : M.length ≤ 100000) :
    Calls Try.prog 23 #[.pointer (some ⟨mb, 0, none⟩), .int .i64 k.1, .int .i64 k.2] w fun e w' => e = .returned (.int .i64 (getC M k)) ∧ Below w.heap.size w w' := by
  obtain ⟨pv, capv, rfl⟩ := owns_slice h.came
  have c0 : w.cell? ⟨mb, 1, none⟩ = some (.slice pv M.length capv) := by simp [World.cell?, h.box]
  have H := Lib.hid h
  clear h
  obtain ⟨fr, sq⟩ := k
  go_enter Try.func23, Try.ntmps23
  go_wp2
  go_loopw [14] (fun i wr => ∃ n : Nat, n ≤ M.length ∧ i = .int .i64 n ∧ (∀ j, j < n → M[j]!.1 ≠ (fr, sq)) ∧ Below w.heap.size w wr) (fun i _ => M.length - (intOf i).toNat)
  case atStart => exact ⟨0, by omega, rfl, fun j hj => by omega, Below.refl _ _⟩
  case round =>
    obtain ⟨n, hn1, rfl, hno, hbr⟩ := hrel
    by_cases hlt : n < M.length
    · obtain ⟨g, rfl⟩ := owns_some H.out.came (by omega)
      have hg := (ownsRow_lt H.out.came (g := g) rfl).2
      have hcl : ∀ m, m < 3 → wr.cell? ⟨g, n * 3 + m, none⟩ = some ((mcell M[n]!)[m]!) := fun m hm => (hbr.cell (p := ⟨g, n * 3 + m, none⟩) hg).trans (owned_cell (enc := mcell) (fun _ => rfl) H.out.came hlt hm)
      have k0 : wr.cell? ⟨g, n * 3, none⟩ = some (.int .i64 M[n]!.1.1) := hcl 0 (by omega)
      have k1 : wr.cell? ⟨g, n * 3 + 1, none⟩ = some (.int .i64 M[n]!.1.2) := hcl 1 (by omega)
      have k2 : wr.cell? ⟨g, n * 3 + 2, none⟩ = some (.int .i64 M[n]!.2) := hcl 2 (by omega)
      generalize hd : M[n]! = d at k0 k1 k2
      obtain ⟨⟨dx, dy⟩, dz⟩ := d
      have H1 := Lib.hid hno
      have H2 := Lib.hid hbr
      have H3 := Lib.hid hd
      clear hcl hno hbr hd
      by_cases t1 : dx = fr
      · have t1' : (dx == fr) = true := by simpa using t1
        have T1 := Lib.hid t1
        clear t1
        by_cases t2 : dy = sq
        · have t2' : (dy == sq) = true := by simpa using t2
          have T2 := Lib.hid t2
          clear t2
          go_wp2
          go_ret
          refine ⟨?_, H2.out.alloc H2.out.size _⟩
          rw [getC_at hlt H1.out (by rw [H3.out, T1.out, T2.out]), H3.out]
          rfl
        · have t2' : (dy == sq) = false := by simpa using t2
          have T2 := Lib.hid t2
          clear t2
          go_wp2
          go_roundw
          case rel =>
            refine ⟨n + 1, by omega, by go_num, fun j hj => ?_, H2.out.alloc H2.out.size _⟩
            rcases Nat.lt_or_ge j n with hj' | hj'
            · exact H1.out j hj'
            · obtain rfl : j = n := by omega
              rw [H3.out]
              exact fun e => T2.out (Prod.mk.inj e).2
          case measure => simp [intOf]; omega
      · have t1' : (dx == fr) = false := by simpa using t1
        have T1 := Lib.hid t1
        clear t1
        go_wp2
        go_roundw
        case rel =>
          refine ⟨n + 1, by omega, by go_num, fun j hj => ?_, H2.out.alloc H2.out.size _⟩
          rcases Nat.lt_or_ge j n with hj' | hj'
          · exact H1.out j hj'
          · obtain rfl : j = n := by omega
            rw [H3.out]
            exact fun e => T1.out (Prod.mk.inj e).1
        case measure => simp [intOf]; omega
    · obtain rfl : n = M.length := by omega
      go_wp2
      go_ret
      exact ⟨by rw [getC_no hno]; rfl, hbr⟩

def rcomes (M : List ((Int × Int) × Int)) (k : Int × Int) (at_ : Int) : List ((Int × Int) × Int) := if hasC M k then M else M ++ [(k, at_)]

set_option maxRecDepth 100000 in
set_option maxHeartbeats 1000000 in
theorem rComes_any (mb B : Nat) (vW vC : Value) (L : List Dv) (M : List ((Int × Int) × Int)) (k : Int × Int) (at_ : Int) (w : World) (h : IsRef w mb B vW vC L M) (hn : M.length ≤ 100000) :
    Calls Try.prog 19 #[.pointer (some ⟨mb, 0, none⟩), .int .i64 k.1, .int .i64 k.2, .int .i64 at_] w fun e w' => e = .returned (.tuple #[]) ∧ (∃ vC', IsRef w' mb B vW vC' L (rcomes M k at_)) ∧ Below B w w' ∧ TySafe w w' := by
  obtain ⟨i0, hi, hz0, hz1, hz2⟩ := info_parts refMarkInfo
  obtain ⟨pv, capv, rfl⟩ := owns_slice h.came
  have c0 : w.cell? ⟨mb, 1, none⟩ = some (.slice pv M.length capv) := by simp [World.cell?, h.box]
  have hlt' := h.lt
  have hBw : B ≤ w.heap.size := by have := h.at_; omega
  have H := Lib.hid h
  clear h
  obtain ⟨fr, sq⟩ := k
  go_enter Try.func19, Try.ntmps19
  go_wp2
  go_loopw [15] (fun i wr => ∃ n : Nat, n ≤ M.length ∧ i = .int .i64 n ∧ (∀ j, j < n → M[j]!.1 ≠ (fr, sq)) ∧ Below w.heap.size w wr) (fun i _ => M.length - (intOf i).toNat)
  case atStart => exact ⟨0, by omega, rfl, fun j hj => by omega, Below.refl _ _⟩
  case round =>
    obtain ⟨n, hn1, rfl, hno, hbr⟩ := hrel
    by_cases hlt : n < M.length
    · obtain ⟨g, rfl⟩ := owns_some H.out.came (by omega)
      have hg := (ownsRow_lt H.out.came (g := g) rfl).2
      have hcl : ∀ m, m < 3 → wr.cell? ⟨g, n * 3 + m, none⟩ = some ((mcell M[n]!)[m]!) := fun m hm => (hbr.cell (p := ⟨g, n * 3 + m, none⟩) hg).trans (owned_cell (enc := mcell) (fun _ => rfl) H.out.came hlt hm)
      have k0 : wr.cell? ⟨g, n * 3, none⟩ = some (.int .i64 M[n]!.1.1) := hcl 0 (by omega)
      have k1 : wr.cell? ⟨g, n * 3 + 1, none⟩ = some (.int .i64 M[n]!.1.2) := hcl 1 (by omega)
      have k2 : wr.cell? ⟨g, n * 3 + 2, none⟩ = some (.int .i64 M[n]!.2) := hcl 2 (by omega)
      generalize hd : M[n]! = d at k0 k1 k2
      obtain ⟨⟨dx, dy⟩, dz⟩ := d
      have H1 := Lib.hid hno
      have H2 := Lib.hid hbr
      have H3 := Lib.hid hd
      clear hcl hno hbr hd
      by_cases t1 : dx = fr
      · have t1' : (dx == fr) = true := by simpa using t1
        have T1 := Lib.hid t1
        clear t1
        by_cases t2 : dy = sq
        · have t2' : (dy == sq) = true := by simpa using t2
          have T2 := Lib.hid t2
          clear t2
          go_wp2
          refine bodyPost_ret (results_none rfl _ _ _) rfl ?_
          have hbA := H2.out.alloc H2.out.size (.cells #[.int .i64 dx, .int .i64 dy, .int .i64 dz] tMark)
          refine ⟨rfl, ⟨.slice (some ⟨g, 0, none⟩) M.length capv, ?_⟩, hbA.mono hBw, TySafe.of_below hbA⟩
          have : rcomes M (fr, sq) at_ = M := if_pos (hasC_at hlt (by rw [H3.out, T1.out, T2.out]))
          rw [this]
          exact H.out.below hbA
        · have t2' : (dy == sq) = false := by simpa using t2
          have T2 := Lib.hid t2
          clear t2
          go_wp2
          go_roundw
          case rel =>
            refine ⟨n + 1, by omega, by go_num, fun j hj => ?_, H2.out.alloc H2.out.size _⟩
            rcases Nat.lt_or_ge j n with hj' | hj'
            · exact H1.out j hj'
            · obtain rfl : j = n := by omega
              rw [H3.out]
              exact fun e => T2.out (Prod.mk.inj e).2
          case measure => simp [intOf]; omega
      · have t1' : (dx == fr) = false := by simpa using t1
        have T1 := Lib.hid t1
        clear t1
        go_wp2
        go_roundw
        case rel =>
          refine ⟨n + 1, by omega, by go_num, fun j hj => ?_, H2.out.alloc H2.out.size _⟩
          rcases Nat.lt_or_ge j n with hj' | hj'
          · exact H1.out j hj'
          · obtain rfl : j = n := by omega
            rw [H3.out]
            exact fun e => T1.out (Prod.mk.inj e).1
        case measure => simp [intOf]; omega
    · obtain rfl : n = M.length := by omega
      have hno2 : rcomes M (fr, sq) at_ = M ++ [((fr, sq), at_)] := by unfold rcomes; rw [hasC_no hno]; rfl
      have c1 : wr.cell? ⟨mb, 1, none⟩ = some (.slice pv M.length capv) := (hbr.cell (p := ⟨mb, 1, none⟩) hlt').trans c0
      have hw2 := hbr.alloc hbr.size (.cells #[.int .i64 fr, .int .i64 sq, .int .i64 at_] tMark)
      have hown := ownsRow_below H.out.came hw2 (Nat.le_refl _)
      have H1 := Lib.hid hno2
      have H2 := Lib.hid hw2
      have H3 := Lib.hid hown
      have H4 := Lib.hid hbr.size
      have hbx : (wr.alloc (.cells #[.int .i64 fr, .int .i64 sq, .int .i64 at_] tMark)).heap[mb]? = some (.cells #[vW, .slice pv M.length capv] tRef (0, 0)) := (hw2.block mb hlt').trans H.out.box
      have hwt := ownsRow_below H.out.wait hw2 (Nat.le_refl _)
      have HK : Hid (∀ w2 : World, (wr.alloc (.cells #[.int .i64 fr, .int .i64 sq, .int .i64 at_] tMark)).grownBy w2 (Value.slice pv M.length capv).ownBlock →
          Below B w w2 ∧ w2.cell? ⟨mb, 1, none⟩ = some (.slice pv M.length capv) ∧ w2.frozen? ⟨mb, 1, none⟩ = false ∧ w2.heap[mb]? = some (.cells #[vW, .slice pv M.length capv] tRef (0, 0)) ∧ w2.ownsRow B tDue 3 vW L.length (L.flatMap lcell) ∧ TySafe w w2) := fun w2 hg => by
        have h1 : Below B w w2 := (hw2.mono hBw).grown hg (by have := hw2.size; omega) (fun r e => (ownsRow_lt hown e).1)
        have h2 : w2.heap[mb]? = some (.cells #[vW, .slice pv M.length capv] tRef (0, 0)) := (hg.block mb (by have := hw2.size; omega) (fun e => ownsRow_ne hown hbx (by decide) e.symm)).trans hbx
        refine ⟨h1, by simp [World.cell?, h2], by simp [World.frozen?, h2], h2, ownsRow_keep hwt fun g hg' => hg.block g (ownsRow_lt hwt hg').2 (fun e => ownsRow_ne2 hwt hown (by decide) e.symm hg'), fun b cs hb => ?_⟩
        have h3 := (hw2.block b (Array.getElem?_eq_some_iff.1 hb).1).trans hb
        exact ((hg.block b (Array.getElem?_eq_some_iff.1 h3).1 (fun e => ownsRow_ne hown h3 (by decide) e.symm)).trans h3).trans hb.symm
      clear hno hbr hno2 hw2 hown hbx hwt
      go_wp2_with (first
        | (at_builtin
           refine wpList_append_src (by rfl) _ _ 49 (by rfl) B tMark i0 _ 3 24 Try.underlying49 hi hz0 hz1 hz2 rfl (by decide) (.slice pv M.length capv) M.length (M.flatMap mcell) (by rfl) H3.out (some ⟨wr.heap.size, 0, none⟩) 1 1 [.int .i64 fr, .int .i64 sq, .int .i64 at_] (by rfl) (by rfl)
            (src_new wr [.int .i64 fr, .int .i64 sq, .int .i64 at_] tMark) (by rintro a ⟨⟩; rfl) (by simp [Value.oneCell']) (by unfold maxLen; omega) (by omega) (by simp; have := H4.out; omega) ?_
           intro v' w2 hown' hgrow hat
           obtain ⟨p2, cap2, rfl⟩ := owns_slice hown'
           obtain ⟨hb2, hc2, hf2, hx2, hr2, hts⟩ := HK.out w2 hgrow
           have H5 := Lib.hid hown'
           have H6 := Lib.hid hb2
           have H7 := Lib.hid hx2
           have H8 := Lib.hid hr2
           have H9 := Lib.hid hts
           clear hown' hgrow hat hb2 hx2 hr2 hts))
      go_end0
      rw [H1.out]
      have hcm := H5.out
      have hl : M.length + 1 = (M ++ [((fr, sq), at_)]).length := by simp
      rw [hl] at hcm ⊢
      exact ⟨rfl, ⟨_, ref_setC H7.out H.out.at_ H8.out (by rw [List.flatMap_append]; simpa [mcell] using hcm)⟩, below_setCell H6.out H.out.at_ _, H9.out.trans (TySafe.of_set _ H7.out (by decide))⟩
end Go.Proofs.Ytamnffcafbfojaa
