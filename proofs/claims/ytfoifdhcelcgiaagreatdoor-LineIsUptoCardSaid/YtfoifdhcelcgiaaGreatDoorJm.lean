/-
  What comes in; the rows in common.
-/
import Derived.Test.YtfoifdhcelcgiaaGreatDoorJl
import Derived.Test.YtfoifdhcelcgiaaGreatDoorRows
import Derived.WalkKit
import Derived.ProofKit
import Derived.OpenShut
import Derived.Deep.DeepHandedRow
import Derived.Lib.LaidTab
import Derived.SizedLaws
import Derived.Deep.CondSized
import Derived.Carry
import Derived.Test.YtfoifdhcelcgiaaGreatDoorCards
import Derived.Test.YtfoifdhcelcgiaaGreatDoorTie
/- What comes in: operations, makes and ints, out of what the arguments read as; and how much each holds. -/
namespace Go.Proofs.YtfoifdhcelcgiaaGreatDoor
open Go Go.ChangeShapes Go.WideShapes Go.ChangeAt Go.RowKit
open Rows (uptoBulk uptoBulkAll)

theorem bulk_pos {H : Type} (d : DataW H) : 1 ≤ uptoBulk d := by
  cases d with
  | lit l => cases l <;> simp [uptoBulk]
  | _ => simp [uptoBulk]
theorem bulk_mem {H : Type} : ∀ {l : List (DataW H)} {d : DataW H}, d ∈ l → uptoBulk d ≤ uptoBulkAll l
  | [], _, h => by simp at h
  | a :: r, d, h => by
    rw [uptoBulkAll]
    rcases List.mem_cons.1 h with rfl | h
    · omega
    · have := bulk_mem h
      omega
theorem bulk_len {H : Type} : ∀ (l : List (DataW H)), l.length ≤ uptoBulkAll l
  | [] => by simp [uptoBulkAll]
  | a :: r => by
    have h1 := bulk_len r
    have h2 := bulk_pos a
    simp only [uptoBulkAll, List.length_cons]
    omega

section
variable {H : Type} {enc : TypeId × Value → H} {W : World} {base : Nat} {sp : Nat → Bool} {held : Bool}

theorem field_of {t : TypeId} {fs : Array Field} {fuel : Nat} {cs : List Value} {x : DataW H × List MemPlace} (ht : Tryz.prog.underlying t = some (.struct fs)) (h : DataW.trod enc Tryz.prog W base sp held fuel t cs = some x) {i : Nat} {f : Field} (hf : fs[i]? = some f) :
    ∃ n y, DataW.trod enc Tryz.prog W base sp held n f.type ((cs.drop f.offset).take (Tryz.prog.cellsOf f.type)) = some y ∧ uptoBulk y.1 < uptoBulk x.1 := by
  obtain ⟨xs, n, _, rfl, hl, hlen, hall⟩ := DataW.trod_struct ht h
  have h1 := hall i f hf
  have hi : i < xs.length := by rw [hlen]; exact (Array.getElem?_eq_some_iff.1 hf).1
  rw [List.getElem?_eq_getElem hi] at h1
  refine ⟨n, xs[i], h1, ?_⟩
  have := bulk_mem (List.mem_map.2 ⟨xs[i], List.getElem_mem hi, rfl⟩ : (xs[i]).1 ∈ xs.map (·.1))
  simp only [uptoBulk]
  omega
theorem cells5 : Tryz.prog.cellsOf 5 = 1 := by kernel_rfl
theorem cells3 : Tryz.prog.cellsOf 3 = 1 := by kernel_rfl
theorem cells9 : Tryz.prog.cellsOf 9 = 1 := by kernel_rfl
theorem cellsId : Tryz.prog.cellsOf 31 = 32 := by kernel_rfl
theorem cellsDr : Tryz.prog.cellsOf 44 = 35 := by kernel_rfl
theorem cellsOp : Tryz.prog.cellsOf 46 = 38 := by kernel_rfl
theorem cellsMk : Tryz.prog.cellsOf 99 = 78 := by kernel_rfl
theorem cellsIds : Tryz.prog.cellsOf 28 = 1 := by kernel_rfl

theorem cut_at (cs : List Value) (a n : Nat) : cs.drop a = (cs.drop a).take n ++ cs.drop (a + n) := by
  rw [← List.drop_drop, List.take_append_drop]

theorem open_id {fuel : Nat} {cs : List Value} {x : DataW H × List MemPlace} (h : DataW.trod enc Tryz.prog W base sp held fuel 31 cs = some x) : ∃ l : List UInt8, l.length = 32 ∧ cs = bcs l := by
  obtain ⟨m, rfl⟩ := trod_fuel h
  obtain ⟨hl, hall⟩ := trod_array Tryz.underlying31 h
  rw [cellsId] at hl
  have key : ∀ i, i < 32 → ∃ b : UInt8, cs[i]? = some (bv b) := fun i hi => by
    obtain ⟨y, hy⟩ := hall i hi
    obtain ⟨n, e, hw⟩ := trod_int_cell Tryz.underlying5 hy
    rw [cells5, Nat.mul_one] at e
    have hc := field_cell e
    have hr : 0 ≤ n ∧ n ≤ 255 := by
      simp [Lit.wf, IntKind.min, IntKind.max, IntKind.signed, IntKind.bits] at hw
      omega
    refine ⟨UInt8.ofNat n.toNat, ?_⟩
    have h2 : (UInt8.ofNat n.toNat).toNat = n.toNat := by simp; omega
    have h3 : n = ((UInt8.ofNat n.toNat).toNat : Int) := by rw [h2]; omega
    rw [hc]
    exact congrArg (fun z => some (Value.int .u8 z)) h3
  refine ⟨cs.map (fun v => match v with | .int _ n => UInt8.ofNat n.toNat | _ => 0), by simp [hl], ?_⟩
  apply List.ext_getElem?
  intro i
  rcases Nat.lt_or_ge i 32 with h1 | h1
  · obtain ⟨b, hb⟩ := key i h1
    simp only [bcs, List.map_map, List.getElem?_map, hb, Option.map_some]
    simp
  · rw [List.getElem?_eq_none (by omega), List.getElem?_eq_none (by simp [bcs]; omega)]

theorem open_i64 {fuel : Nat} {cs : List Value} {x : DataW H × List MemPlace} (h : DataW.trod enc Tryz.prog W base sp held fuel 3 cs = some x) : ∃ n, cs = [.int .i64 n] ∧ i64R n := by
  obtain ⟨n, e, hw⟩ := trod_int_cell Tryz.underlying3 h
  refine ⟨n, e, ?_⟩
  simp [Lit.wf, IntKind.min, IntKind.max, IntKind.signed, IntKind.bits] at hw
  unfold i64R
  omega
theorem open_txt {fuel : Nat} {cs : List Value} {x : DataW H × List MemPlace} (h : DataW.trod enc Tryz.prog W base sp held fuel 9 cs = some x) : ∃ l : List UInt8, cs = [txt l] ∧ l.length < uptoBulk x.1 := by
  obtain ⟨s, rfl, rfl, _⟩ := DataW.trod_string Tryz.underlying9 h
  exact ⟨s.data.toList, by simp [txt], by simp [uptoBulk]⟩
theorem open_dr {fuel : Nat} {cs : List Value} {x : DataW H × List MemPlace} (h : DataW.trod enc Tryz.prog W base sp held fuel 44 cs = some x) (hb : uptoBulk x.1 ≤ 1048576) : ∃ d : Dr, cs = d.cs ∧ d.Ok := by
  obtain ⟨_, _, _, _, hl, _, _⟩ := DataW.trod_struct Tryz.underlying44 h
  rw [cellsDr] at hl
  obtain ⟨_, y0, h0, b0⟩ := field_of Tryz.underlying44 h (i := 0) rfl
  obtain ⟨_, y1, h1, b1⟩ := field_of Tryz.underlying44 h (i := 1) rfl
  obtain ⟨_, y2, h2, b2⟩ := field_of Tryz.underlying44 h (i := 2) rfl
  obtain ⟨_, y3, h3, b3⟩ := field_of Tryz.underlying44 h (i := 3) rfl
  obtain ⟨k, e0, r0⟩ := open_i64 h0
  obtain ⟨key, e1, r1⟩ := open_txt h1
  obtain ⟨val, e2, r2⟩ := open_txt h2
  obtain ⟨ref, r3, e3⟩ := open_id h3
  change (cs.drop 0).take (Tryz.prog.cellsOf 3) = _ at e0
  rw [cells3] at e0
  change (cs.drop 1).take (Tryz.prog.cellsOf 9) = _ at e1
  rw [cells9] at e1
  change (cs.drop 2).take (Tryz.prog.cellsOf 9) = _ at e2
  rw [cells9] at e2
  change (cs.drop 3).take (Tryz.prog.cellsOf 31) = _ at e3
  rw [cellsId] at e3
  refine ⟨⟨k, key, val, ref⟩, ?_, ⟨r0.1, r0.2, r3, by simp only; omega, by simp only; omega⟩⟩
  have c0 : cs.drop 0 = (cs.drop 0).take 1 ++ cs.drop 1 := cut_at cs 0 1
  have c1 : cs.drop 1 = (cs.drop 1).take 1 ++ cs.drop 2 := cut_at cs 1 1
  have c2 : cs.drop 2 = (cs.drop 2).take 1 ++ cs.drop 3 := cut_at cs 2 1
  have c3 : cs.drop 3 = bcs ref := by
    rw [← e3, List.take_of_length_le (by simp [hl])]
  rw [c3, e2] at c2
  rw [c2, e1] at c1
  rw [c1, e0] at c0
  rw [List.drop_zero] at c0
  rw [c0]
  rfl

theorem trod_slice_bulk {t e : TypeId} {fuel : Nat} {a0 : Option Addr} {len cap : Nat} {x : DataW H × List MemPlace} (ht : Tryz.prog.underlying t = some (.slice e)) (he : 0 < Tryz.prog.cellsOf e) (h : DataW.trod enc Tryz.prog W base sp held fuel t [.slice a0 len cap] = some x) :
    cap ≤ maxLen ∧ len ≤ cap ∧ len < uptoBulk x.1 ∧ ∃ n, ∀ i, i < len → ∃ b off, a0 = some ⟨b, off, none⟩ ∧ ∃ (cs : List Value) (y : DataW H × List MemPlace), cs.length = Tryz.prog.cellsOf e ∧ cellsAt W b (off + i * Tryz.prog.cellsOf e) cs ∧ DataW.trod enc Tryz.prog W base sp held n e cs = some y ∧ uptoBulk y.1 < uptoBulk x.1 := by
  rcases DataW.trod_slice ht h with ⟨hcs, hx⟩ | ⟨a, len', cap', elems, rest, n, _, hcs, hx, hb, hl, hm, hel, hall, _, _⟩
  · simp at hcs
    obtain ⟨rfl, rfl, rfl⟩ := hcs
    exact ⟨by unfold maxLen; omega, Nat.le_refl _, bulk_pos _, 0, fun i hi => by omega⟩
  · simp at hcs
    obtain ⟨rfl, rfl, rfl⟩ := hcs
    have hall' : ∀ i, i < len → ∃ cs, W.cells? base (a.add (i * Tryz.prog.cellsOf e)) (Tryz.prog.cellsOf e) = some cs ∧ ∃ y, y ∈ elems ∧ DataW.trod enc Tryz.prog W base sp held n e cs = some y := fun i hi => by
      have h1 := hall i hi
      rw [List.getElem?_eq_getElem (by omega)] at h1
      cases hc : W.cells? base (a.add (i * Tryz.prog.cellsOf e)) (Tryz.prog.cellsOf e) with
      | none => rw [hc] at h1; simp at h1
      | some cs => rw [hc] at h1; exact ⟨cs, rfl, _, List.getElem_mem _, h1⟩
    have hbx : uptoBulkAll (elems.map (·.1)) < uptoBulk x.1 := by rw [hx]; simp only [uptoBulk]; omega
    have hle := bulk_len (elems.map (·.1))
    rw [List.length_map] at hle
    refine ⟨hm, hl, by omega, n, fun i hi => ?_⟩
    obtain ⟨b, off, spot⟩ := a
    have hspot : spot = none := by
      obtain ⟨cs, hc, _⟩ := hall' 0 (by omega)
      obtain ⟨hb', hlen, hcell⟩ := World.cells?_some hc
      have hc0 := hcell 0 he
      cases hcs0 : cs[0]? with
      | none => rw [List.getElem?_eq_none_iff] at hcs0; omega
      | some u => rw [hcs0] at hc0; simpa [Addr.add] using World.cell?_spot hc0
    subst hspot
    obtain ⟨cs, hc, y, hy, h1⟩ := hall' i hi
    obtain ⟨hb', hlen, hcell⟩ := World.cells?_some hc
    refine ⟨b, off, rfl, cs, y, hlen, fun j u hj => ?_, h1, ?_⟩
    · have hj' : j < Tryz.prog.cellsOf e := by rw [← hlen]; exact (List.getElem?_eq_some_iff.1 hj).1
      have := hcell j hj'
      rw [WideShapes.add_plain, WideShapes.add_plain] at this
      rw [this, hj]
    · have := bulk_mem (List.mem_map.2 ⟨y, hy, rfl⟩ : y.1 ∈ elems.map (·.1))
      omega

theorem choose_list {α : Type} (P : Nat → α → Prop) : ∀ n : Nat, (∀ i, i < n → ∃ x, P i x) → ∃ l : List α, l.length = n ∧ ∀ i x, l[i]? = some x → P i x
  | 0, _ => ⟨[], rfl, fun i x hi => by simp at hi⟩
  | n + 1, h => by
    obtain ⟨l, hl, hp⟩ := choose_list P n (fun i hi => h i (by omega))
    obtain ⟨x, hx⟩ := h n (by omega)
    refine ⟨l ++ [x], by simp [hl], fun i y hi => ?_⟩
    rcases Nat.lt_or_ge i l.length with h1 | h1
    · rw [List.getElem?_append_left h1] at hi
      exact hp i y hi
    · have h2 := (List.getElem?_eq_some_iff.1 hi).1
      rw [List.length_append] at h2
      simp only [List.length_cons, List.length_nil] at h2
      have e' : i = l.length := by omega
      subst e'
      rw [List.getElem?_append_right (Nat.le_refl _), Nat.sub_self] at hi
      simp at hi
      subst hi
      rw [hl]
      exact hx

/-- a row of rows, cell by cell -/
theorem src_flat {α : Type} {f : α → List Value} {s : Nat} {p : Option Addr} : ∀ (l : List α) (_ : ∀ i x, l[i]? = some x → (f x).length = s ∧ ∃ b off, p = some ⟨b, off, none⟩ ∧ cellsAt W b (off + i * s) (f x)), SrcAt W p (l.flatMap f) := by
  intro l h j u hj
  have key : ∀ (l : List α) (k : Nat), (∀ x ∈ l, (f x).length = s) → (l.flatMap f)[k]? = some u → ∃ i x r, l[i]? = some x ∧ (f x)[r]? = some u ∧ k = i * s + r := by
    intro l
    induction l with
    | nil => intro k _ hk; simp at hk
    | cons a r ih =>
      intro k hs hk
      rw [List.flatMap_cons] at hk
      have ha := hs a (by simp)
      rcases Nat.lt_or_ge k (f a).length with h1 | h1
      · rw [List.getElem?_append_left h1] at hk
        exact ⟨0, a, k, rfl, hk, by omega⟩
      · rw [List.getElem?_append_right h1] at hk
        obtain ⟨i, x, q, e1, e2, e3⟩ := ih (k - (f a).length) (fun x hx => hs x (by simp [hx])) hk
        refine ⟨i + 1, x, q, by simpa using e1, e2, ?_⟩
        rw [Nat.add_mul]
        omega
  obtain ⟨i, x, r, e1, e2, rfl⟩ := key l j (fun x hx => by
    obtain ⟨i, hi⟩ := List.mem_iff_getElem?.1 hx
    exact (h i x hi).1) hj
  obtain ⟨_, b, off, hp, hc⟩ := h i x e1
  refine ⟨b, off, hp, ?_⟩
  have := hc r u e2
  rw [Nat.add_assoc] at this
  exact this

theorem open_ids {fuel : Nat} {cs : List Value} {x : DataW H × List MemPlace} (h : DataW.trod enc Tryz.prog W base sp held fuel 28 cs = some x) :
    ∃ (p : Option Addr) (X : List Nm) (c : Nat), cs = [.slice p X.length c] ∧ SrcAt W p (pcs X) ∧ (∀ x ∈ X, x.length = 32) ∧ X.length < uptoBulk x.1 := by
  have hform : ∃ a0 len cap, cs = [.slice a0 len cap] := by
    rcases DataW.trod_slice Tryz.underlying28 h with ⟨hcs, _⟩ | ⟨a, len, cap, _, _, _, _, hcs, _⟩
    · exact ⟨_, _, _, hcs⟩
    · exact ⟨_, _, _, hcs⟩
  obtain ⟨a0, len, cap, rfl⟩ := hform
  obtain ⟨_, _, hlb, n, hall⟩ := trod_slice_bulk Tryz.underlying28 (by rw [cellsId]; omega) h
  obtain ⟨X, hX, hp⟩ := choose_list (fun i (l : Nm) => l.length = 32 ∧ ∃ b off, a0 = some ⟨b, off, none⟩ ∧ cellsAt W b (off + i * 32) (bcs l)) len (fun i hi => by
    obtain ⟨b, off, e1, cs, y, e2, e3, e4, _⟩ := hall i hi
    obtain ⟨l, hl, rfl⟩ := open_id e4
    rw [cellsId] at e3
    exact ⟨l, hl, b, off, e1, e3⟩)
  refine ⟨a0, X, cap, by rw [hX], src_flat X (s := 32) (fun i x hi => ⟨by rw [bcs_length]; exact (hp i x hi).1, (hp i x hi).2⟩), fun x hx => ?_, by omega⟩
  obtain ⟨i, hi⟩ := List.mem_iff_getElem?.1 hx
  exact (hp i x hi).1

theorem open_op {fuel : Nat} {cs : List Value} {x : DataW H × List MemPlace} (h : DataW.trod enc Tryz.prog W base sp held fuel 46 cs = some x) (hb : uptoBulk x.1 ≤ 1048576) :
    ∃ (o : OpV) (p : Option Addr) (c : Nat), cs = o.cs p c ∧ o.Ok ∧ Src W p (pcs o.preds) := by
  obtain ⟨_, _, _, _, hl, _, _⟩ := DataW.trod_struct Tryz.underlying46 h
  rw [cellsOp] at hl
  obtain ⟨_, y0, h0, b0⟩ := field_of Tryz.underlying46 h (i := 0) rfl
  obtain ⟨_, y1, h1, b1⟩ := field_of Tryz.underlying46 h (i := 1) rfl
  obtain ⟨_, y2, h2, b2⟩ := field_of Tryz.underlying46 h (i := 2) rfl
  obtain ⟨_, y3, h3, b3⟩ := field_of Tryz.underlying46 h (i := 3) rfl
  obtain ⟨d, e0, hd⟩ := open_dr h0 (by omega)
  obtain ⟨au, e1, r1⟩ := open_i64 h1
  obtain ⟨de, e2, r2⟩ := open_i64 h2
  obtain ⟨p, X, c, e3, hs, h32, hX⟩ := open_ids h3
  change (cs.drop 0).take (Tryz.prog.cellsOf 44) = _ at e0
  rw [cellsDr] at e0
  change (cs.drop 35).take (Tryz.prog.cellsOf 3) = _ at e1
  rw [cells3] at e1
  change (cs.drop 36).take (Tryz.prog.cellsOf 3) = _ at e2
  rw [cells3] at e2
  change (cs.drop 37).take (Tryz.prog.cellsOf 28) = _ at e3
  rw [cellsIds] at e3
  refine ⟨⟨d, au, de, X⟩, p, c, ?_, ⟨hd, r1.1, r1.2, r2.1, r2.2, h32, by simp only; omega⟩, ⟨hs⟩⟩
  have c0 : cs.drop 0 = (cs.drop 0).take 35 ++ cs.drop 35 := cut_at cs 0 35
  have c1 : cs.drop 35 = (cs.drop 35).take 1 ++ cs.drop 36 := cut_at cs 35 1
  have c2 : cs.drop 36 = (cs.drop 36).take 1 ++ cs.drop 37 := cut_at cs 36 1
  have c3 : cs.drop 37 = [.slice p X.length c] := by
    rw [← e3, List.take_of_length_le (by simp [hl])]
  rw [c3, e2] at c2
  rw [c2, e1] at c1
  rw [c1, e0] at c0
  rw [List.drop_zero] at c0
  rw [c0]
  rfl

theorem open_mk {fuel : Nat} {cs : List Value} {x : DataW H × List MemPlace} (h : DataW.trod enc Tryz.prog W base sp held fuel 99 cs = some x) (hb : uptoBulk x.1 ≤ 1048576) :
    ∃ m : MkV, cs = m.cs ∧ m.Ok ∧ Src W m.p (pcs m.o.preds) := by
  obtain ⟨_, _, _, _, hl, _, _⟩ := DataW.trod_struct Tryz.underlying99 h
  rw [cellsMk] at hl
  obtain ⟨_, y0, h0, b0⟩ := field_of Tryz.underlying99 h (i := 0) rfl
  obtain ⟨_, y1, h1, b1⟩ := field_of Tryz.underlying99 h (i := 1) rfl
  obtain ⟨_, y2, h2, b2⟩ := field_of Tryz.underlying99 h (i := 2) rfl
  obtain ⟨_, y3, h3, b3⟩ := field_of Tryz.underlying99 h (i := 3) rfl
  obtain ⟨_, y4, h4, b4⟩ := field_of Tryz.underlying99 h (i := 4) rfl
  obtain ⟨_, y5, h5, b5⟩ := field_of Tryz.underlying99 h (i := 5) rfl
  obtain ⟨_, y6, h6, b6⟩ := field_of Tryz.underlying99 h (i := 6) rfl
  obtain ⟨k, e0, r0⟩ := open_i64 h0
  obtain ⟨au, e1, r1⟩ := open_i64 h1
  obtain ⟨d, e2, hd⟩ := open_dr h2 (by omega)
  obtain ⟨at', e3, r3⟩ := open_i64 h3
  obtain ⟨ot, e4, r4⟩ := open_i64 h4
  obtain ⟨de, e5, r5⟩ := open_i64 h5
  obtain ⟨o, p, c, e6, ho, hs⟩ := open_op h6 (by omega)
  change (cs.drop 0).take (Tryz.prog.cellsOf 3) = _ at e0
  rw [cells3] at e0
  change (cs.drop 1).take (Tryz.prog.cellsOf 3) = _ at e1
  rw [cells3] at e1
  change (cs.drop 2).take (Tryz.prog.cellsOf 44) = _ at e2
  rw [cellsDr] at e2
  change (cs.drop 37).take (Tryz.prog.cellsOf 3) = _ at e3
  rw [cells3] at e3
  change (cs.drop 38).take (Tryz.prog.cellsOf 3) = _ at e4
  rw [cells3] at e4
  change (cs.drop 39).take (Tryz.prog.cellsOf 3) = _ at e5
  rw [cells3] at e5
  change (cs.drop 40).take (Tryz.prog.cellsOf 46) = _ at e6
  rw [cellsOp] at e6
  refine ⟨⟨k, au, d, at', ot, de, o, p, c⟩, ?_, ⟨r0, r1, hd, r3, r4, r5, ho⟩, hs⟩
  have c0 : cs.drop 0 = (cs.drop 0).take 1 ++ cs.drop 1 := cut_at cs 0 1
  have c1 : cs.drop 1 = (cs.drop 1).take 1 ++ cs.drop 2 := cut_at cs 1 1
  have c2 : cs.drop 2 = (cs.drop 2).take 35 ++ cs.drop 37 := cut_at cs 2 35
  have c3 : cs.drop 37 = (cs.drop 37).take 1 ++ cs.drop 38 := cut_at cs 37 1
  have c4 : cs.drop 38 = (cs.drop 38).take 1 ++ cs.drop 39 := cut_at cs 38 1
  have c5 : cs.drop 39 = (cs.drop 39).take 1 ++ cs.drop 40 := cut_at cs 39 1
  have c6 : cs.drop 40 = o.cs p c := by
    rw [← e6, List.take_of_length_le (by simp [hl])]
  rw [c6, e5] at c5
  rw [c5, e4] at c4
  rw [c4, e3] at c3
  rw [c3, e2] at c2
  rw [c2, e1] at c1
  rw [c1, e0] at c0
  rw [List.drop_zero] at c0
  rw [c0]
  rfl

theorem open_mks {fuel : Nat} {a0 : Option Addr} {len cap : Nat} {x : DataW H × List MemPlace} (h : DataW.trod enc Tryz.prog W base sp held fuel 22 [.slice a0 len cap] = some x) (hb : uptoBulk x.1 ≤ 1048576) :
    ∃ M : List MkV, len = M.length ∧ (∀ m ∈ M, m.Ok) ∧ Src W a0 (mcs M) ∧ (∀ m ∈ M, Src W m.p (pcs m.o.preds)) ∧ M.length ≤ 1000000000 := by
  obtain ⟨_, _, hlb, n, hall⟩ := trod_slice_bulk Tryz.underlying22 (by rw [cellsMk]; omega) h
  obtain ⟨M, hM, hp⟩ := choose_list (fun i (m : MkV) => (m.Ok ∧ Src W m.p (pcs m.o.preds)) ∧ ∃ b off, a0 = some ⟨b, off, none⟩ ∧ cellsAt W b (off + i * 78) m.cs) len (fun i hi => by
    obtain ⟨b, off, e1, cs, y, e2, e3, e4, e5⟩ := hall i hi
    obtain ⟨m, rfl, hm, hs⟩ := open_mk e4 (by omega)
    rw [cellsMk] at e3
    exact ⟨m, ⟨hm, hs⟩, b, off, e1, e3⟩)
  have hmem : ∀ m ∈ M, m.Ok ∧ Src W m.p (pcs m.o.preds) := fun m hm => by
    obtain ⟨i, hi⟩ := List.mem_iff_getElem?.1 hm
    exact (hp i m hi).1
  exact ⟨M, hM.symm, fun m hm => (hmem m hm).1, ⟨src_flat M (s := 78) (fun i m hi => ⟨MkV.cs_length (hp i m hi).1.1, (hp i m hi).2⟩)⟩, fun m hm => (hmem m hm).2, by omega⟩

theorem open_zs {fuel : Nat} {a0 : Option Addr} {len cap : Nat} {x : DataW H × List MemPlace} (h : DataW.trod enc Tryz.prog W base sp held fuel 39 [.slice a0 len cap] = some x) :
    ∃ zs : List Int, len = zs.length ∧ IntsAt W a0 zs ∧ zs.length ≤ 9223372036854775807 := by
  obtain ⟨hm, hl, _, n, hall⟩ := trod_slice_bulk Tryz.underlying39 (by rw [cells3]; omega) h
  obtain ⟨zs, hz, hp⟩ := choose_list (fun i (z : Int) => ∃ b off, a0 = some ⟨b, off, none⟩ ∧ cellsAt W b (off + i * 1) [.int .i64 z] ∧ i64R z) len (fun i hi => by
    obtain ⟨b, off, e1, cs, y, e2, e3, e4, e5⟩ := hall i hi
    obtain ⟨z, rfl, hr⟩ := open_i64 e4
    rw [cells3] at e3
    exact ⟨z, b, off, e1, e3, hr⟩)
  refine ⟨zs, hz.symm, fun i hi => ?_, by unfold maxLen at hm; omega⟩
  obtain ⟨b, off, e1, e2, hr⟩ := hp i zs[i] (List.getElem?_eq_getElem hi)
  have hg : zs.getD i 0 = zs[i] := by simp [List.getD, hi]
  rw [hg]
  have hc : W.cell? ⟨b, off + i, none⟩ = some (.int .i64 zs[i]) := by simpa using e2 0 _ rfl
  exact ⟨b, off, e1, World.block_lt_of_cell? W _ hc, hc, hr⟩
end

/-! ### the tables -/
theorem gStart : Tryz.prog.globalNamed "tribunal/sha.start" = some 1 := by kernel_rfl
theorem gRound : Tryz.prog.globalNamed "tribunal/sha.round" = some 2 := by kernel_rfl
theorem gStartT : (Tryz.prog.globals[1]?).map (·.type) = some 154 := by kernel_rfl
theorem gRoundT : (Tryz.prog.globals[2]?).map (·.type) = some 162 := by kernel_rfl
theorem cells8 : Tryz.prog.cellsOf 154 = 8 := by kernel_rfl
theorem cells64 : Tryz.prog.cellsOf 162 = 64 := by kernel_rfl
theorem cellsU32 : Tryz.prog.cellsOf 129 = 1 := by kernel_rfl
def tabS : List Int := H0.l.map fun x => (x.toNat : Int)
def tabR : List Int := KT.map fun x => (x.toNat : Int)
theorem laidS : (Rows.laid_tribunal_sha_start : DataW Unit) = Lib.tabData .u32 tabS := by rfl
theorem laidR : (Rows.laid_tribunal_sha_round : DataW Unit) = Lib.tabData .u32 tabR := by rfl
theorem tabs_of {W : World} (h : laidMet Tryz.prog [("tribunal/sha.start", Rows.laid_tribunal_sha_start), ("tribunal/sha.round", Rows.laid_tribunal_sha_round)] W) : Tabs W := by
  have hS : Lib.TabIs Tryz.prog W "tribunal/sha.start" .u32 tabS := Lib.tabIs_of_head (rest := [("tribunal/sha.round", Rows.laid_tribunal_sha_round)]) gStart gStartT Tryz.underlying154 Tryz.underlying129 cellsU32 cells8 (by rw [laidS] at h; exact h)
  have hR : Lib.TabIs Tryz.prog W "tribunal/sha.round" .u32 tabR := by
    obtain ⟨ps, ⟨g1, t1, cs1, f1, p1, q1, _, _, _, _, ⟨g', t', cs, fuel, p, q, hg', ht', hvar, hd, _, _⟩, _⟩, _⟩ := h
    obtain rfl := Option.some.inj (gRound.symm.trans hg')
    obtain rfl := Option.some.inj (gRoundT.symm.trans ht')
    unfold Lib.TabIs
    rw [laidR] at hd
    rw [hvar, ← Lib.cells_of_tab Tryz.underlying162 Tryz.underlying129 cellsU32 cells64 hd]
  refine ⟨fun i hi => ?_, fun j u hj => ?_, ?_⟩
  · have := hR.cell gRound i (show i < 64 from hi)
    rw [this]
    have hk : i < KT.length := hi
    simp [tabR, List.getD, hk]
  · have hj8 : j < 8 := (List.getElem?_eq_some_iff.1 hj).1
    have := hS.cell gStart j hj8
    rw [Nat.zero_add, this, ← hj, St.cs_l]
    have hl : j < H0.l.length := hj8
    simp [tabS, List.getD, hl]
  · have := hR.cell gRound 0 (by decide)
    have h2 := World.block_lt_of_cell? W _ this
    exact h2
end Go.Proofs.YtfoifdhcelcgiaaGreatDoor

/- FROM A WALK THAT RETURNS true AND LEAVES OLD MEMORY ALONE TO A LAW'S ROW. -/
namespace Go.Proofs.YtfoifdhcelcgiaaGreatDoor
open Go Go.ChangeShapes Go.WideShapes Go.ChangeAt Go.RowKit

section
variable {H : Type} {enc : TypeId × Value → H} {P : Program}

theorem trodAll_below (hl : laidOutB P = true) {W W' : World} (hb : Below W.heap.size W W') :
    ∀ {ts : List TypeId} {vs : List Value} {ds : List (DataW H)} {ps : List MemPlace}, (∀ t ∈ ts, P.readableRec t = true ∧ t < P.types.size) → DataW.TrodAll enc P W 0 (fun _ => true) true ts vs ds ps →
      DataW.TrodAll enc P W' 0 (fun b => decide (b < W.heap.size)) true ts vs ds ps
  | [], [], [], _, _, h => h
  | t :: ts, v :: vs, d :: ds, ps, hr, ⟨p, q, h, hs, e⟩ =>
    ⟨p, q, Below.trod hl (hr t (by simp)).1 (hr t (by simp)).2 h hb (fun x hx => by
      have h1 : DataW.TrodAll enc P W 0 (fun _ => true) true (t :: ts) (v :: vs) (d :: ds) (p ++ q) := ⟨p, q, h, hs, rfl⟩
      exact h1.lt x (by simp [hx])), trodAll_below hl hb (fun t ht => hr t (by simp [ht])) hs, e⟩

/-- the row's end: true, and nothing old has turned -/
theorem law_post (hl : laidOutB P = true) {f : Func} {tb : TypeId} (hrt : f.resultTypes = #[tb]) (htb : P.underlying tb = some .bool) (hr : ∀ t ∈ f.params.toList, P.readableRec t = true ∧ t < P.types.size)
    {s : ChangeSpec} (hv : s.vars = []) {W W' : World} {args : Array Value} {ds gs : List (DataW H)} {before : List MemPlace} (hW : DataW.Whole enc P f.params.toList s.vars false W args.toList ds gs before)
    (hs : (s.fn H ds).results = [.lit (.bool true)] ∧ (s.fn H ds).args = ds ∧ (s.fn H ds).vars = []) (hb : Below W.heap.size W W') : s.post enc P f false true false false W args (.bool true) W' := by
  have hW' := hW
  obtain ⟨p, q, hA, hV, rfl, hfz, hnd⟩ := hW
  rw [hv] at hV
  obtain ⟨rfl, rfl⟩ := trodVars_none hV
  refine ⟨ds, [], p ++ [], [], p, [], hW', ?_, ?_, ?_, hb.frame _, fun h => by cases h⟩
  · rw [List.append_nil, hs.1, hrt]
    exact ⟨[], [], ⟨1, by simp [DataW.trod, htb, Value.cells]⟩, rfl, rfl⟩
  · rw [List.append_nil, hs.2.1]
    exact trodAll_below hl hb hr hA
  · rw [List.append_nil, hs.2.2, hv]
    rfl

end
end Go.Proofs.YtfoifdhcelcgiaaGreatDoor

/- What the rows of this seat have in common: a world that holds the tables; how the tables are got out of the condition. -/
namespace Go.Proofs.YtfoifdhcelcgiaaGreatDoor
open Go Go.ChangeShapes Go.WideShapes Go.ChangeAt Go.RowKit

theorem Tryz.own : ownKnob Tryz.prog.godebug = none := by kernel_rfl
def fillS : Obj → Obj
  | .cells _ t frozen => .cells H0.cs.toArray t frozen
  | o => o
def fillR : Obj → Obj
  | .cells _ t frozen => .cells (KT.map vw).toArray t frozen
  | o => o
noncomputable def laidWorld (os : Os) : World :=
  let w0 := World.holding Tryz.prog os ⟨#[], #[], []⟩
  { w0 with heap := (w0.heap.modify 1 fillS).modify 2 fillR }
theorem readTypes : ∀ t ∈ [22, 39, 3, 31, 44], Tryz.prog.readableRec t = true ∧ t < Tryz.prog.types.size := by
  intro t ht
  simp at ht
  rcases ht with rfl | rfl | rfl | rfl | rfl <;> exact ⟨by kernel_rfl, of_decide_eq_true (by kernel_rfl)⟩
theorem bulk_of {H : Type} {s : ChangeSpec} {ds gs : List (DataW H)} (hcond : ∀ k, (Rows.OpenSpec.upto s).cond = some k → k H (ds ++ gs) = true) : Rows.uptoBulkAll (ds ++ gs) ≤ 1048576 := by
  have h := hcond _ rfl
  exact of_decide_eq_true h
end Go.Proofs.YtfoifdhcelcgiaaGreatDoor
