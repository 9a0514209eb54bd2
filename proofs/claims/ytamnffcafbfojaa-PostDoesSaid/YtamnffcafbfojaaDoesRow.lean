/-
  In every script each answer is the document's: PostDoes returns true at every input, and its arguments read as they did.
-/
import Derived.Test.YtamnffcafbfojaaDoes
import Derived.Test.YtamnffcafbfojaaLoadsRow
namespace Go.Proofs.Ytamnffcafbfojaa
open Go Go.ChangeShapes Go.WideShapes Go.ChangeAt Go.RowKit

theorem callCells : Try.prog.cellsOf 53 = 6 := by kernel_rfl
theorem entsCells : Try.prog.cellsOf 37 = 1 := by kernel_rfl
theorem readCalls : ∀ t ∈ [46], Try.prog.readableRec t = true ∧ t < Try.prog.types.size := by
  intro t ht
  simp at ht
  subst ht
  exact ⟨by kernel_rfl, of_decide_eq_true (by kernel_rfl)⟩

theorem trod_slice_cell {H : Type} {enc : TypeId × Value → H} {P : Program} {W : World} {base fuel : Nat} {sp : Nat → Bool} {held : Bool} {t e : TypeId} {cs : List Value} {x : DataW H × List MemPlace} (ht : P.underlying t = some (.slice e)) (h : DataW.trod enc P W base sp held fuel t cs = some x) : ∃ a n c, cs = [.slice a n c] := by
  obtain ⟨m, rfl⟩ := trod_fuel h
  rw [DataW.trod.eq_def] at h
  simp only [ht] at h
  split at h
  all_goals first
    | exact ⟨_, _, _, rfl⟩
    | simp_all

theorem callAt_of {H : Type} {enc : TypeId × Value → H} {W : World} {fuel b off : Nat} {cs : List Value} {y : DataW H × List MemPlace} (hc : cellsAt W b off cs) (h : DataW.trod enc Try.prog W 0 (fun _ => true) true fuel 53 cs = some y) : ∃ c, CallAt W W.heap.size b off c := by
  obtain ⟨m, rfl⟩ := trod_fuel h
  obtain ⟨hl, hf⟩ := trod_struct Try.underlying53 h
  obtain ⟨y0, h0⟩ := hf _ (by simp : (⟨"Kind", 3, 0, false, "", "", 0⟩ : Field) ∈ _)
  obtain ⟨y1, h1⟩ := hf _ (by simp : (⟨"Seq", 3, 1, false, "", "", 8⟩ : Field) ∈ _)
  obtain ⟨y2, h2⟩ := hf _ (by simp : (⟨"Node", 3, 2, false, "", "", 16⟩ : Field) ∈ _)
  obtain ⟨y3, h3⟩ := hf _ (by simp : (⟨"Mask", 3, 3, false, "", "", 24⟩ : Field) ∈ _)
  obtain ⟨y4, h4⟩ := hf _ (by simp : (⟨"At", 3, 4, false, "", "", 32⟩ : Field) ∈ _)
  obtain ⟨y5, h5⟩ := hf _ (by simp : (⟨"List", 37, 5, false, "", "", 40⟩ : Field) ∈ _)
  obtain ⟨n0, e0, w0⟩ := trod_int_cell Try.underlying3 h0
  obtain ⟨n1, e1, w1⟩ := trod_int_cell Try.underlying3 h1
  obtain ⟨n2, e2, w2⟩ := trod_int_cell Try.underlying3 h2
  obtain ⟨n3, e3, w3⟩ := trod_int_cell Try.underlying3 h3
  obtain ⟨n4, e4, w4⟩ := trod_int_cell Try.underlying3 h4
  obtain ⟨a5, l5, c5, e5⟩ := trod_slice_cell Try.underlying37 h5
  rw [e5] at h5
  obtain ⟨es, rfl, hes, hlen⟩ := entsAt_of_cells h5
  simp only [cellsInt, entsCells] at e0 e1 e2 e3 e4 e5
  exact ⟨⟨n0, n1, n2, n3, n4, a5, c5, es⟩, by simpa using hc _ _ (field_cell e0), hc _ _ (field_cell e1), hc _ _ (field_cell e2), hc _ _ (field_cell e3), hc _ _ (field_cell e4), hc _ _ (field_cell e5), I64_of_wf w1, I64_of_wf w2, hes, hlen⟩

theorem callsAt_of_cells {H : Type} {enc : TypeId × Value → H} {W : World} {fuel : Nat} {a0 : Option Addr} {len cap : Nat} {x : DataW H × List MemPlace} (h : DataW.trod enc Try.prog W 0 (fun _ => true) true fuel 46 [.slice a0 len cap] = some x) :
    ∃ cs, len = List.length cs ∧ CallsAt W W.heap.size a0 cs ∧ cs.length ≤ 9223372036854775807 := by
  obtain ⟨hm, hl, n, hall⟩ := trod_slice_cells Try.underlying46 (by rw [callCells]; omega) h
  obtain ⟨es, h1, h2⟩ := choose_list (fun i c => ∃ b off, a0 = some ⟨b, off, none⟩ ∧ b < W.heap.size ∧ CallAt W W.heap.size b (off + i * 6) c) len (fun i hi => by
    obtain ⟨b, off, e1, e2, cs, y, e3, e4, e5⟩ := hall i hi
    rw [callCells] at e4
    obtain ⟨c, hc⟩ := callAt_of e4 e5
    exact ⟨c, b, off, e1, e2, hc⟩)
  exact ⟨es, h1.symm, fun i hi => h2 i (by omega), by unfold maxLen at hm; omega⟩

set_option maxRecDepth 100000 in
theorem does_lifted (os : Os) (started : os.Started) (H : Type) (enc : TypeId × Value → H) :
    ReturnsInHanded {} Try.checked os 7 .any (Rows.postDoesSpec.pre6 enc Try.prog Try.f7 Rows.postDoesRow.domain false) (Rows.postDoesSpec.post enc Try.prog Try.f7 false true false false) := by
  refine returnsInHanded_of_change (C := Try.checked) Try.own started (by kernel_rfl) Try.func7
    (ChangeSpec.witness6 (enc := enc) (C := Try.checked) false ⟨#[], #[.slice none 0 0], []⟩ 8 (by kernel_rfl) (by kernel_rfl) (by kernel_rfl) (by kernel_rfl)) ?_
  intro W base args ds gs before hval0 hW _ _
  have hval : ∀ (j : Nat) t v, Try.f7.params[j]? = some t → args[j]? = some v → Value.okWide Try.prog W .any base t v := hval0
  have hW' := hW
  obtain ⟨p, q, hA0, hV, rfl, hfz, hnd⟩ := hW
  have hA : DataW.TrodAll enc Try.prog W 0 (fun _ => true) true Try.f7.params.toList args.toList ds p := hA0
  rw [Try.params7] at hA hval
  obtain ⟨v0, d0, rfl, rfl, h0⟩ := trodAll_one hA
  obtain ⟨a0, len, cap, rfl⟩ := okWide_slice Try.underlying46 (hval 0 46 v0 rfl rfl)
  obtain ⟨fuel, hf⟩ := h0
  obtain ⟨cs, rfl, hcs, hlen⟩ := callsAt_of_cells hf
  refine (does_any a0 cap cs W hcs hlen).mono fun e W' ⟨he, hb⟩ => ?_
  subst he
  exact ⟨_, rfl, law_post Try.laidOut (tb := 4) rfl Try.underlying4 (by rw [Try.params7]; exact readCalls) rfl hW' ⟨rfl, rfl, rfl⟩ hb⟩

/-- In every script each answer is the document's: PostDoes returns true at every input. -/
theorem does_holds : Rows.PostDoesSaid :=
  OpenClaim.holds_of_wide 7 Try.f7 rfl rfl rfl rfl rfl rfl rfl ⟨rfl, rfl, rfl, rfl, rfl⟩ rfl rfl rfl rfl rfl (by kernel_rfl) Try.func7 (by kernel_rfl)
    (of_decide_eq_true (by kernel_rfl)) (by unfold Func.isWrapper; first | (rw [if_pos (by decide +kernel)]; kernel_rfl) | (rw [if_neg (by decide +kernel)]; exact ⟨rfl, rfl⟩))
    (fun os started H enc _ => does_lifted os started H enc)
#print axioms does_holds
end Go.Proofs.Ytamnffcafbfojaa
