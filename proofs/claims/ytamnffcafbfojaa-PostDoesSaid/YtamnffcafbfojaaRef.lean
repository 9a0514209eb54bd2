/-
  POST: THE DOCUMENT'S ANSWER AS AN OBJECT, AND WHAT EACH OF ITS METHODS DOES TO IT.
-/
import Derived.Test.YtamnffcafbfojaaRefP
import Derived.Test.YtamnffcafbfojaaLoad
import Derived.Test.YtamnffcafbfojaaOwn
import Derived.Test.YtamnffcafbfojaaHold
import Derived.BigQuiet
namespace Go.Proofs.Ytamnffcafbfojaa
open Go Go.RowKit

abbrev tRef : TypeId := 51
abbrev tDue : TypeId := 70
abbrev tMark : TypeId := 72
def lcell (d : Dv) : List Value := [.int .i64 d.seq, .int .i64 d.to, .int .i64 d.age]
def mcell (c : (Int × Int) × Int) : List Value := [.int .i64 c.1.1, .int .i64 c.1.2, .int .i64 c.2]

structure IsRef (w : World) (mb B : Nat) (vW vC : Value) (L : List Dv) (M : List ((Int × Int) × Int)) : Prop where
  box : w.heap[mb]? = some (.cells #[vW, vC] tRef (0, 0))
  at_ : B ≤ mb
  wait : w.ownsRow B tDue 3 vW L.length (L.flatMap lcell)
  came : w.ownsRow B tMark 3 vC M.length (M.flatMap mcell)

theorem IsRef.lt {w : World} {mb B : Nat} {vW vC : Value} {L : List Dv} {M : List ((Int × Int) × Int)} (h : IsRef w mb B vW vC L M) : mb < w.heap.size := (Array.getElem?_eq_some_iff.1 h.box).1

theorem IsRef.below {w w' : World} {mb B : Nat} {vW vC : Value} {L : List Dv} {M : List ((Int × Int) × Int)} (h : IsRef w mb B vW vC L M) (hb : Below w.heap.size w w') : IsRef w' mb B vW vC L M :=
  ⟨(hb.block mb h.lt).trans h.box, h.at_, ownsRow_below h.wait hb (Nat.le_refl _), ownsRow_below h.came hb (Nat.le_refl _)⟩

theorem refDueInfo : (Try.prog.info? tDue).map (fun i => (i.zero, i.size, i.bytes)) = some (some (.agg #[.int .i64 0, .int .i64 0, .int .i64 0]), 3, 24) := by kernel_rfl
theorem refMarkInfo : (Try.prog.info? tMark).map (fun i => (i.zero, i.size, i.bytes)) = some (some (.agg #[.int .i64 0, .int .i64 0, .int .i64 0]), 3, 24) := by kernel_rfl

theorem hasW_of {L : List Dv} {n : Nat} {k : Int × Int} (h : n < L.length) (hk : L[n]!.key = k) : hasW L k = true := by
  unfold hasW
  refine List.any_eq_true.2 ⟨L[n]!, ?_, by simpa using hk⟩
  rw [getElem!_pos L n h]
  exact List.getElem_mem _

theorem hasW_no {L : List Dv} {k : Int × Int} (h : ∀ j, j < L.length → L[j]!.key ≠ k) : hasW L k = false := by
  unfold hasW
  rw [List.any_eq_false]
  intro d hd
  obtain ⟨j, hj, rfl⟩ := List.mem_iff_getElem.1 hd
  have := h j hj
  rw [getElem!_pos L j hj] at this
  simpa using this

theorem owns_some {w : World} {base : Nat} {e : TypeId} {size n cap : Nat} {p : Option Addr} {xs : List Value} (h : w.ownsRow base e size (.slice p n cap) n xs) (hn : 0 < n) : ∃ g, p = some ⟨g, 0, none⟩ := by
  rcases h.2 with ⟨_, h0⟩ | ⟨g, cap0, cur, hv, _⟩
  · omega
  · exact ⟨g, (Value.slice.inj hv).1⟩

theorem acked_at {L : List Dv} {n : Nat} {k : Int × Int} (hn : n < L.length) (hk : L[n]!.key = k) (hnd : (L.map Dv.key).Nodup) : L.take n ++ L.drop (n + 1) = acked L k := by
  induction L generalizing n with
  | nil => simp at hn
  | cons a L ih =>
    simp only [List.map_cons, List.nodup_cons] at hnd
    cases n with
    | zero =>
      simp at hk
      have hf : L.filter (fun d => decide (d.key ≠ k)) = L := List.filter_eq_self.2 (fun d hd => by
        have : d.key ≠ k := fun e => hnd.1 (List.mem_map.2 ⟨d, hd, e.trans hk.symm⟩)
        simpa using this)
      unfold acked
      rw [List.filter_cons, if_neg (by simpa using hk), hf]
      simp
    | succ n =>
      have hn' : n < L.length := by simpa using hn
      have hk' : L[n]!.key = k := by
        rw [getElem!_pos (a :: L) (n + 1) hn] at hk
        rw [getElem!_pos L n hn']
        simpa using hk
      have ha : a.key ≠ k := fun e => hnd.1 (List.mem_map.2 ⟨L[n]!, by rw [getElem!_pos L n hn']; exact List.getElem_mem _, hk'.trans e.symm⟩)
      have := ih hn' hk' hnd.2
      unfold acked at this ⊢
      rw [List.filter_cons, if_pos (by simpa using ha), ← this]
      simp

theorem acked_no {L : List Dv} {k : Int × Int} (h : ∀ j, j < L.length → L[j]!.key ≠ k) : acked L k = L := by
  unfold acked
  refine List.filter_eq_self.2 fun d hd => ?_
  obtain ⟨j, hj, rfl⟩ := List.mem_iff_getElem.1 hd
  have := h j hj
  rw [getElem!_pos L j hj] at this
  simpa using this

theorem flat_take (L : List Dv) (n : Nat) : (L.flatMap lcell).take (n * 3) = (L.take n).flatMap lcell := by
  induction n generalizing L with
  | zero => simp
  | succ n ih =>
    cases L with
    | nil => simp
    | cons a L => rw [show (n + 1) * 3 = n * 3 + 3 by omega]; simp [lcell, ih]

theorem flat_drop (L : List Dv) (n : Nat) : (L.flatMap lcell).drop (n * 3) = (L.drop n).flatMap lcell := by
  induction n generalizing L with
  | zero => simp
  | succ n ih =>
    cases L with
    | nil => simp
    | cons a L => rw [show (n + 1) * 3 = n * 3 + 3 by omega]; simp [lcell, ih]

theorem flat_length (L : List Dv) : (L.flatMap lcell).length = L.length * 3 := by
  induction L with
  | nil => rfl
  | cons a L ih => rw [List.flatMap_cons, List.length_append, ih]; simp [lcell]; omega

theorem flat_one (L : List Dv) : ∀ u ∈ L.flatMap lcell, u.oneCell' = true := by
  intro u hu
  obtain ⟨d, _, h⟩ := List.mem_flatMap.1 hu
  simp [lcell] at h
  rcases h with rfl | rfl | rfl <;> rfl

theorem set_box0 {w : World} {mb : Nat} {x y v : Value} {t : TypeId} (h : w.heap[mb]? = some (.cells #[x, y] t (0, 0))) : (w.setCell ⟨mb, 0, none⟩ v).heap[mb]? = some (.cells #[v, y] t (0, 0)) := by
  simp [World.setCell, Array.getElem?_modify, h]
theorem set_box1 {w : World} {mb : Nat} {x y v : Value} {t : TypeId} (h : w.heap[mb]? = some (.cells #[x, y] t (0, 0))) : (w.setCell ⟨mb, 1, none⟩ v).heap[mb]? = some (.cells #[x, v] t (0, 0)) := by
  simp [World.setCell, Array.getElem?_modify, h]

/-- the box gets another row of what waits -/
theorem ref_setW {w : World} {mb B : Nat} {x vC v : Value} {L : List Dv} {M : List ((Int × Int) × Int)} (h : w.heap[mb]? = some (.cells #[x, vC] tRef (0, 0))) (hB : B ≤ mb) (hw : w.ownsRow B tDue 3 v L.length (L.flatMap lcell)) (hc : w.ownsRow B tMark 3 vC M.length (M.flatMap mcell)) :
    IsRef (w.setCell ⟨mb, 0, none⟩ v) mb B v vC L M :=
  ⟨set_box0 h, hB, ownsRow_keep hw fun g hg => Below.heap_setCell w ⟨mb, 0, none⟩ v g (fun e => ownsRow_ne hw h (by decide) (by rw [hg, show g = mb from e])),
    ownsRow_keep hc fun g hg => Below.heap_setCell w ⟨mb, 0, none⟩ v g (fun e => ownsRow_ne hc h (by decide) (by rw [hg, show g = mb from e]))⟩

theorem ref_setC {w : World} {mb B : Nat} {vW x v : Value} {L : List Dv} {M : List ((Int × Int) × Int)} (h : w.heap[mb]? = some (.cells #[vW, x] tRef (0, 0))) (hB : B ≤ mb) (hw : w.ownsRow B tDue 3 vW L.length (L.flatMap lcell)) (hc : w.ownsRow B tMark 3 v M.length (M.flatMap mcell)) :
    IsRef (w.setCell ⟨mb, 1, none⟩ v) mb B vW v L M :=
  ⟨set_box1 h, hB, ownsRow_keep hw fun g hg => Below.heap_setCell w ⟨mb, 1, none⟩ v g (fun e => ownsRow_ne hw h (by decide) (by rw [hg, show g = mb from e])),
    ownsRow_keep hc fun g hg => Below.heap_setCell w ⟨mb, 1, none⟩ v g (fun e => ownsRow_ne hc h (by decide) (by rw [hg, show g = mb from e]))⟩

theorem below_setCell {B : Nat} {w0 w : World} {mb i : Nat} (h : Below B w0 w) (hB : B ≤ mb) (v : Value) : Below B w0 (w.setCell ⟨mb, i, none⟩ v) :=
  ⟨h.os, h.tape, h.output, by have := h.size; simpa [World.setCell] using this, fun b hb => (Below.heap_setCell w ⟨mb, i, none⟩ v b (by intro e; have e : b = mb := e; omega)).trans (h.block b hb)⟩

theorem keeps_setCell {w0 w : World} {mb i : Nat} (h : Below w0.heap.size w0 w) (v : Value) : Keeps (· = mb) w0 (w.setCell ⟨mb, i, none⟩ v) :=
  ⟨h.os, h.tape, h.output, by have := h.size; simpa [World.setCell] using this, fun b hb hne => (Below.heap_setCell w ⟨mb, i, none⟩ v b hne).trans (h.block b hb)⟩

/-- variables of a script's calls stay as they are -/
abbrev tCall : TypeId := 53
def TySafe (w w' : World) : Prop := ∀ (b : Nat) (cs : Array Value), w.heap[b]? = some (.cells cs tCall (0, 0)) → w'.heap[b]? = w.heap[b]?
theorem TySafe.refl (w : World) : TySafe w w := fun _ _ _ => rfl
theorem TySafe.trans {a b c : World} (h : TySafe a b) (k : TySafe b c) : TySafe a c := fun i cs hi => by
  have h1 := h i cs hi
  exact (k i cs (h1.trans hi)).trans h1
theorem TySafe.of_below {w w' : World} (h : Below w.heap.size w w') : TySafe w w' := fun b _ hb => h.block b (Array.getElem?_eq_some_iff.1 hb).1
theorem TySafe.of_keeps {w w' : World} {mb : Nat} {x : Array Value} {fz : Nat × Nat} (h : Keeps (· = mb) w w') (hm : w.heap[mb]? = some (.cells x tRef fz)) : TySafe w w' := fun b cs hb =>
  h.block b (Array.getElem?_eq_some_iff.1 hb).1 (fun e => by
    have e : b = mb := e
    rw [e, hm] at hb
    simp at hb
    exact absurd hb.2.1 (by decide))
theorem TySafe.of_set {w : World} {g i : Nat} {x : Array Value} {t : TypeId} {fz : Nat × Nat} (v : Value) (hm : w.heap[g]? = some (.cells x t fz)) (ht : t ≠ tCall) : TySafe w (w.setCell ⟨g, i, none⟩ v) := fun b cs hb =>
  Below.heap_setCell w ⟨g, i, none⟩ v b (fun e => by
    have e : b = g := e
    rw [e, hm] at hb
    simp at hb
    exact ht hb.2.1)

/-- a row of nothing, just made -/
theorem own_none (w : World) (base : Nat) (e : TypeId) (size : Nat) (hb : base ≤ w.heap.size) : (w.alloc (.cells #[] e)).ownsRow base e size (.slice (some ⟨w.heap.size, 0, none⟩) 0 0) 0 [] :=
  ⟨by simp, .inr ⟨w.heap.size, 0, #[], rfl, hb, World.alloc_heap_new w _, Nat.le_refl _, by simp, by simp, by simp⟩⟩

set_option maxRecDepth 100000 in
set_option maxHeartbeats 1000000 in
theorem rAcked_any (mb B : Nat) (vW vC : Value) (L : List Dv) (M : List ((Int × Int) × Int)) (seq to : Int) (w : World) (h : IsRef w mb B vW vC L M) (hn : L.length ≤ 100000) (hnd : (L.map Dv.key).Nodup) :
    Calls Try.prog 18 #[.pointer (some ⟨mb, 0, none⟩), .int .i64 seq, .int .i64 to] w fun e w' => e = .returned (.bool (hasW L (to, seq))) ∧ (∃ vW', IsRef w' mb B vW' vC (acked L (to, seq)) M) ∧ Keeps (· = mb) w w' := by
  obtain ⟨i0, hi, hz0, hz1, hz2⟩ := info_parts refDueInfo
  obtain ⟨pv, capv, rfl⟩ := owns_slice h.wait
  have c0 : w.cell? ⟨mb, 0, none⟩ = some (.slice pv L.length capv) := by simp [World.cell?, h.box]
  have H := Lib.hid h
  have hlt' := h.lt
  clear h
  go_enter Try.func18, Try.ntmps18
  go_wp2
  go_loopw [14] (fun i wr => ∃ n : Nat, n ≤ L.length ∧ i = .int .i64 n ∧ (∀ j, j < n → L[j]!.key ≠ (to, seq)) ∧ Below w.heap.size w wr) (fun i _ => L.length - (intOf i).toNat)
  case atStart => exact ⟨0, by omega, rfl, fun j hj => by omega, Below.refl _ _⟩
  case round =>
    obtain ⟨n, hn1, rfl, hno, hbr⟩ := hrel
    by_cases hlt : n < L.length
    · obtain ⟨g, rfl⟩ := owns_some H.out.wait (by omega)
      have hg := (ownsRow_lt H.out.wait (g := g) rfl).2
      have hcl : ∀ m, m < 3 → wr.cell? ⟨g, n * 3 + m, none⟩ = some ((lcell L[n]!)[m]!) := fun m hm => (hbr.cell (p := ⟨g, n * 3 + m, none⟩) hg).trans (owned_cell (enc := lcell) (fun _ => rfl) H.out.wait hlt hm)
      have k0 : wr.cell? ⟨g, n * 3, none⟩ = some (.int .i64 L[n]!.seq) := hcl 0 (by omega)
      have k1 : wr.cell? ⟨g, n * 3 + 1, none⟩ = some (.int .i64 L[n]!.to) := hcl 1 (by omega)
      have k2 : wr.cell? ⟨g, n * 3 + 2, none⟩ = some (.int .i64 L[n]!.age) := hcl 2 (by omega)
      generalize hd : L[n]! = d at k0 k1 k2
      have H1 := Lib.hid hno
      have H2 := Lib.hid hbr
      have H3 := Lib.hid hd
      clear hcl hno hbr hd
      by_cases t1 : d.seq = seq
      · have t1' : (d.seq == seq) = true := by simpa using t1
        have T1 := Lib.hid t1
        clear t1
        by_cases t2 : d.to = to
        · have t2' : (d.to == to) = true := by simpa using t2
          have T2 := Lib.hid t2
          clear t2
          have hbA : Below w.heap.size w (wr.alloc (.cells #[.int .i64 d.seq, .int .i64 d.to, .int .i64 d.age] tDue)) := H2.out.alloc H2.out.size _
          have c1 : (wr.alloc (.cells #[.int .i64 d.seq, .int .i64 d.to, .int .i64 d.age] tDue)).cell? ⟨mb, 0, none⟩ = some (.slice (some ⟨g, 0, none⟩) L.length capv) := (hbA.cell (p := ⟨mb, 0, none⟩) hlt').trans c0
          have H4 := Lib.hid hbA
          clear hbA
          have hcapv := (ownsRow_at H.out.wait rfl).2.2.2
          have hwr := H2.out.size
          have hBw : B ≤ w.heap.size := by have := H.out.at_; omega
          have hsr := (ownsRow_src H.out.wait).below (B := w.heap.size) (by rintro b off ⟨⟩; exact hg) H4.out
          have hfz : (wr.alloc (.cells #[.int .i64 d.seq, .int .i64 d.to, .int .i64 d.age] tDue)).frozen? ⟨mb, 0, none⟩ = false := by
            have := (H4.out.block mb hlt').trans H.out.box
            simp [World.frozen?, this]
          have hown0 := own_none (wr.alloc (.cells #[.int .i64 d.seq, .int .i64 d.to, .int .i64 d.age] tDue)) B tDue 3 (by simp; omega)
          have hsr1 := (hsr.below (B := w.heap.size) (by rintro b off ⟨⟩; exact hg) (((Below.refl w.heap.size (wr.alloc (.cells #[.int .i64 d.seq, .int .i64 d.to, .int .i64 d.age] tDue))).alloc (by simp; omega) (.cells #[] tDue)).drew))
          have hl1 : ((L.flatMap lcell).take (n * 3)).length = n * 3 := by rw [List.length_take, flat_length]; omega
          have hl2 : ((L.flatMap lcell).drop ((n + 1) * 3)).length = (L.length - (n + 1)) * 3 := by rw [List.length_drop, flat_length]; omega
          have H5 := Lib.hid hsr1
          have H6 := Lib.hid hown0.drew
          have H7 := Lib.hid hl1
          have H8 := Lib.hid hl2
          obtain ⟨wB, hwB⟩ : ∃ wB : World, wB = ((wr.alloc (.cells #[.int .i64 d.seq, .int .i64 d.to, .int .i64 d.age] tDue)).alloc (.cells #[] tDue)).drew := ⟨_, rfl⟩
          have hbB : Below w.heap.size w wB := by rw [hwB]; exact (H4.out.alloc (by simp; omega) _).drew
          have hsB : wB.heap.size = wr.heap.size + 2 := by rw [hwB]; simp
          have H9 := Lib.hid hbB
          have H10 := Lib.hid hsB
          have H11 : Hid (wB = ((wr.alloc (.cells #[.int .i64 d.seq, .int .i64 d.to, .int .i64 d.age] tDue)).alloc (.cells #[] tDue)).drew) := hwB
          have H5 : Hid (SrcAt wB (some ⟨g, 0, none⟩) (L.flatMap lcell)) := by rw [hwB]; exact hsr1
          have H6 : Hid (wB.ownsRow B tDue 3 (.slice (some ⟨wr.heap.size + 1, 0, none⟩) 0 0) 0 []) := by rw [hwB]; have := hown0.drew; simp only [World.size_alloc] at this; exact this
          have H7 := Lib.hid hl1
          have H8 := Lib.hid hl2
          -- behind each append: what was there, and the box
          have HK1 : Hid (∀ (v1 : Value) (w1 : World), w1.ownsRow B tDue 3 v1 (0 + n) ([] ++ (L.flatMap lcell).take (n * 3)) → wB.grownBy w1 (some (wr.heap.size + 1)) → (v1.ownBlock = some (wr.heap.size + 1) ∨ v1.ownBlock = some wB.heap.size) →
              Below w.heap.size w w1 ∧ w1.cell? ⟨mb, 0, none⟩ = some (.slice (some ⟨g, 0, none⟩) L.length capv) ∧ SrcAt w1 (if capv = n + 1 then some ⟨g, 0, none⟩ else some ⟨g, (n + 1) * 3, none⟩) ((L.flatMap lcell).drop ((n + 1) * 3)) ∧ B ≤ w1.heap.size) := fun v1 w1 h1 h2 h3 => by
            have h4 : Below w.heap.size w w1 := hbB.grown h2 hbB.size (fun r e => by cases e; omega)
            refine ⟨h4, (h4.cell (p := ⟨mb, 0, none⟩) hlt').trans c0, ?_, by have := h4.size; omega⟩
            split
            · have : (L.flatMap lcell).drop ((n + 1) * 3) = [] := List.eq_nil_of_length_eq_zero (by rw [hl2, show L.length - (n + 1) = 0 by omega, Nat.zero_mul])
              rw [this]
              exact SrcAt.nil _ _
            · have := ((ownsRow_src H.out.wait).below (B := w.heap.size) (by rintro b off ⟨⟩; exact hg) h4).drop ((n + 1) * 3)
              simpa using this
          have HK2 : Hid (∀ (v1 : Value) (w1 w2 : World), wB.grownBy w1 (some (wr.heap.size + 1)) → (v1.ownBlock = some (wr.heap.size + 1) ∨ v1.ownBlock = some wB.heap.size) → w1.grownBy w2 v1.ownBlock →
              Below w.heap.size w w2 ∧ w2.cell? ⟨mb, 0, none⟩ = some (.slice (some ⟨g, 0, none⟩) L.length capv) ∧ w2.frozen? ⟨mb, 0, none⟩ = false) := fun v1 w1 w2 h2 h3 h4 => by
            have h5 : Below w.heap.size w w1 := hbB.grown h2 hbB.size (fun r e => by cases e; omega)
            have h6 : Below w.heap.size w w2 := h5.grown h4 h5.size (fun r e => by rcases h3 with h | h <;> rw [h] at e <;> cases e <;> omega)
            refine ⟨h6, (h6.cell (p := ⟨mb, 0, none⟩) hlt').trans c0, ?_⟩
            have := (h6.block mb hlt').trans H.out.box
            simp [World.frozen?, this]
          clear hsr hsr1 hown0 hl1 hl2 hwB hbB hsB hfz
          obtain ⟨A, hA⟩ : ∃ A : Option Addr, A = if capv = n + 1 then some ⟨g, 0, none⟩ else some ⟨g, (n + 1) * 3, none⟩ := ⟨_, rfl⟩
          have HA := Lib.hid hA
          clear hA
          have H12 : Hid (wB.cell? ⟨mb, 0, none⟩ = some (.slice (some ⟨g, 0, none⟩) L.length capv)) := (H9.out.cell (p := ⟨mb, 0, none⟩) hlt').trans c0
          go_wp2_with fail
          have z0 : (0 : Int) ≤ (n : Int) := by omega
          have z1 : (n : Int) ≤ (capv : Int) := by omega
          have z2 : (0 : Int) ≤ (n : Int) + 1 := by omega
          have z3 : (n : Int) + 1 ≤ (L.length : Int) := by omega
          have z4 : (L.length : Int) ≤ (capv : Int) := by omega
          have z5 : ((n : Int) + 1).toNat = n + 1 := by omega
          have z6 : IntKind.i64.wrap ((n : Int) + 1) = (n : Int) + 1 := IntWalk.i64_in _ (by omega)
          refine wp_region_noPanic ?_
          refine wp_region_till 19 (fun w' => w'.cell? ⟨mb, 0, none⟩ = some (.slice (some ⟨g, 0, none⟩) L.length capv)) (by kernel_rfl) (by kernel_rfl) ?_
          refine Till.pure 0 rfl rfl (by kernel_rfl) (NoPanic.noFrame _) c1 ?_
          go_big_quiet_step (fail)
          refine wpQuiet_nil ?_
          refine Till.pure 2 rfl rfl (by kernel_rfl) (NoPanic.noFrame _) c1 ?_
          go_big_quiet_step (fail)
          refine wpQuiet_nil ?_
          refine Till.pure 3 rfl rfl (by kernel_rfl) (NoPanic.noFrame _) c1 ?_
          go_big_quiet_step (fail)
          refine wpQuiet_nil ?_
          refine Till.pure 4 rfl rfl (by kernel_rfl) (NoPanic.noFrame _) c1 ?_
          go_big_quiet_step (fail)
          refine wpQuiet_nil ?_
          refine Till.load 5 48 _ ⟨mb, 0, none⟩ (.slice (some ⟨g, 0, none⟩) L.length capv) rfl rfl rfl rfl (by kernel_rfl) (NoPanic.noFrame _) c1 (fun w' hw' => run_loadVar_one Try.underlying48 rfl hw') ?_
          go_simp
          refine Till.pure 6 rfl rfl (by kernel_rfl) (NoPanic.noFrame _) c1 ?_
          go_big_quiet_step (fail)
          refine wpQuiet_nil ?_
          refine Till.pure 7 rfl rfl (by kernel_rfl) (NoPanic.noFrame _) c1 ?_
          go_big_quiet_step (fail)
          refine wpQuiet_nil ?_
          refine Till.pure 9 rfl rfl (by kernel_rfl) (NoPanic.noFrame _) c1 ?_
          go_big_quiet_step (fail)
          refine wpQuiet_nil ?_
          refine Till.pure 10 rfl rfl (by kernel_rfl) (NoPanic.noFrame _) c1 ?_
          go_big_quiet_step (fail)
          refine wpQuiet_nil ?_
          refine Till.pure 11 rfl rfl (by kernel_rfl) (NoPanic.noFrame _) c1 ?_
          go_big_quiet_step (fail)
          refine wpQuiet_nil ?_
          refine Till.load 12 48 _ ⟨mb, 0, none⟩ (.slice (some ⟨g, 0, none⟩) L.length capv) rfl rfl rfl rfl (by kernel_rfl) (NoPanic.noFrame _) c1 (fun w' hw' => run_loadVar_one Try.underlying48 rfl hw') ?_
          go_simp
          refine Till.pure 13 rfl rfl (by kernel_rfl) (NoPanic.noFrame _) c1 ?_
          go_big_quiet_step (fail)
          refine wpQuiet_nil ?_
          refine Till.pure 14 rfl rfl (by kernel_rfl) (NoPanic.noFrame _) c1 ?_
          go_big_quiet_step (fail)
          refine wpQuiet_nil ?_
          refine Till.pure 15 rfl rfl (by kernel_rfl) (NoPanic.noFrame _) c1 ?_
          go_big_quiet_step (fail)
          refine wpQuiet_nil ?_
          rw [← HA.out]
          refine Till.act 1 rfl rfl (by kernel_rfl) rfl ?_
          intro K hK
          go_wp2
          rw [← H11.out]
          refine hK _ _ H12.out ?_
          clear hK K
          refine Till.act 8 rfl rfl (by kernel_rfl) rfl ?_
          intro K hK
          refine wp_append_src _ _ _ (by rfl) B tDue i0 _ 3 24 Try.underlying48 hi hz0 hz1 hz2 rfl (by omega) (.slice (some ⟨wr.heap.size + 1, 0, none⟩) 0 0) 0 [] (by rfl) H6.out
            (some ⟨g, 0, none⟩) n capv ((L.flatMap lcell).take (n * 3)) (by rfl) H7.out (H5.out.take _) (by rintro a ⟨⟩; rfl) (fun u hu => flat_one _ u (List.mem_of_mem_take hu)) (by unfold maxLen; omega) (by omega) (by have := H10.out; omega) ?_
          intro v1 w1 hown1 hg1 hat1
          obtain ⟨hb1, hc1, hs1, hz1'⟩ := HK1.out v1 w1 hown1 hg1 hat1
          go_simp
          refine hK _ _ hc1 ?_
          clear hK K
          refine Till.act 16 rfl rfl (by kernel_rfl) rfl ?_
          intro K hK
          refine wp_append_src _ _ _ (by rfl) B tDue i0 _ 3 24 Try.underlying48 hi hz0 hz1 hz2 rfl (by omega) v1 (0 + n) ([] ++ (L.flatMap lcell).take (n * 3)) (by rfl) hown1
            A (L.length - (n + 1)) (capv - (n + 1)) ((L.flatMap lcell).drop ((n + 1) * 3)) (by rfl) H8.out (by rw [HA.out]; exact hs1) (by intro a ha; rw [HA.out] at ha; split at ha <;> cases ha <;> rfl) (fun u hu => flat_one _ u (List.mem_of_mem_drop hu)) (by unfold maxLen; omega) (by omega) hz1' ?_
          intro v2 w2 hown2 hg2 hat2
          obtain ⟨p2, cap2, rfl⟩ := owns_slice hown2
          obtain ⟨hb2, hc2, hf2⟩ := HK2.out v1 w1 w2 hg1 hat1 hg2
          go_simp
          refine hK _ _ hc2 ?_
          clear hK K
          refine Till.pure 17 rfl rfl (by kernel_rfl) (NoPanic.noFrame _) hc2 ?_
          go_big_quiet_step (fail)
          refine wpQuiet_nil ?_
          refine Till.pure 18 rfl rfl (by kernel_rfl) (NoPanic.noFrame _) hc2 ?_
          go_big_quiet_step (fail)
          refine wpQuiet_nil ?_
          refine Till.tail _ rfl rfl (by kernel_rfl) (by kernel_rfl) ?_
          have hbx := (hb2.block mb hlt').trans H.out.box
          have hown3 := hown2
          have hcm := ownsRow_below H.out.came hb2 (Nat.le_refl _)
          have H13 := Lib.hid hb2
          have H14 := Lib.hid hbx
          have H15 := Lib.hid hown3
          have H16 := Lib.hid hcm
          clear hown2 hown1 hg1 hat1 hb1 hc1 hs1 hg2 hat2 hb2 hbx hown3 hcm
          go_wp2
          refine NoPanic.normal ?_
          go_wp2
          go_ret
          have hk : L[n]!.key = (to, seq) := by rw [H3.out]; exact Prod.ext T2.out T1.out
          have hL' := acked_at hlt hk hnd
          have hlen : 0 + n + (L.length - (n + 1)) = (acked L (to, seq)).length := by rw [← hL', List.length_append, List.length_take, List.length_drop]; omega
          have hrow := H15.out
          rw [flat_take, flat_drop, List.nil_append, ← List.flatMap_append, hL', hlen] at hrow
          have hlen' : n + (L.length - (n + 1)) = (acked L (to, seq)).length := by omega
          rw [hlen']
          exact ⟨by rw [hasW_of hlt hk]; rfl, ⟨_, ref_setW H14.out H.out.at_ hrow H16.out⟩, keeps_setCell H13.out _⟩
        · have t2' : (d.to == to) = false := by simpa using t2
          have T2 := Lib.hid t2
          clear t2
          go_wp2
          go_roundw
          case rel =>
            refine ⟨n + 1, by omega, by go_num, fun j hj => ?_, H2.out.alloc H2.out.size _⟩
            rcases Nat.lt_or_ge j n with hj' | hj'
            · exact H1.out j hj'
            · obtain rfl : j = n := by omega
              rw [H3.out]
              exact fun e => T2.out (Prod.mk.inj e).1
          case measure => simp [intOf]; omega
      · have t1' : (d.seq == seq) = false := by simpa using t1
        have T1 := Lib.hid t1
        clear t1
        go_wp2
        go_roundw
        case rel =>
          refine ⟨n + 1, by omega, by go_num, fun j hj => ?_, H2.out.alloc H2.out.size _⟩
          rcases Nat.lt_or_ge j n with hj' | hj'
          · exact H1.out j hj'
          · obtain rfl : j = n := by omega
            rw [H3.out]
            exact fun e => T1.out (Prod.mk.inj e).2
        case measure => simp [intOf]; omega
    · obtain rfl : n = L.length := by omega
      go_wp2
      go_ret
      exact ⟨by simp [hasW_no hno], ⟨_, by rw [acked_no hno]; exact H.out.below hbr⟩, Keeps.of_below hbr⟩
end Go.Proofs.Ytamnffcafbfojaa
