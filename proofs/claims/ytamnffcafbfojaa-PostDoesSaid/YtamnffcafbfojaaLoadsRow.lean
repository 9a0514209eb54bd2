/-
  A log that is loaded is as if what it has had been sent, and had come: PostLoads returns true at every input, and its arguments read as they did.
-/
import Derived.Test.YtamnffcafbfojaaLoads
import Derived.Test.YtamnffcafbfojaaFirstRow
namespace Go.Proofs.Ytamnffcafbfojaa
open Go Go.ChangeShapes Go.WideShapes Go.ChangeAt Go.RowKit

theorem entFlat : flatB Try.prog 4 44 = true := by kernel_rfl
theorem entCells73 : Try.prog.cellsOf 44 = 73 := by kernel_rfl
theorem readEnts : ∀ t ∈ [37], Try.prog.readableRec t = true ∧ t < Try.prog.types.size := by
  intro t ht
  simp at ht
  subst ht
  exact ⟨by kernel_rfl, of_decide_eq_true (by kernel_rfl)⟩

theorem entCells_of {H : Type} {enc : TypeId × Value → H} {W : World} {base fuel : Nat} {sp : Nat → Bool} {held : Bool} {cs : List Value} {y : DataW H × List MemPlace} (h : DataW.trod enc Try.prog W base sp held fuel 44 cs = some y) : ∃ e, EntCells cs e := by
  obtain ⟨m, rfl⟩ := trod_fuel h
  obtain ⟨hl, hf⟩ := trod_struct Try.underlying44 h
  rw [entCells73] at hl
  have hfl := flat_cells entFlat h
  obtain ⟨y0, h0⟩ := hf _ (by simp : (⟨"Kind", 3, 0, false, "", "", 0⟩ : Field) ∈ _)
  obtain ⟨y1, h1⟩ := hf _ (by simp : (⟨"From", 3, 36, false, "", "", 80⟩ : Field) ∈ _)
  obtain ⟨y2, h2⟩ := hf _ (by simp : (⟨"Seq", 3, 37, false, "", "", 88⟩ : Field) ∈ _)
  obtain ⟨y3, h3⟩ := hf _ (by simp : (⟨"Mask", 3, 70, false, "", "", 128⟩ : Field) ∈ _)
  obtain ⟨n0, e0, w0⟩ := trod_int_cell Try.underlying3 h0
  obtain ⟨n1, e1, w1⟩ := trod_int_cell Try.underlying3 h1
  obtain ⟨n2, e2, w2⟩ := trod_int_cell Try.underlying3 h2
  obtain ⟨n3, e3, w3⟩ := trod_int_cell Try.underlying3 h3
  simp only [cellsInt] at e0 e1 e2 e3
  exact ⟨⟨n0, n1, n2, n3⟩, hl, hfl, field_cell e0, field_cell e1, field_cell e2, field_cell e3, I64_of_wf w1, I64_of_wf w2⟩

theorem choose_list {α : Type} [Inhabited α] (P : Nat → α → Prop) : ∀ n : Nat, (∀ i, i < n → ∃ x, P i x) → ∃ l : List α, l.length = n ∧ ∀ i, i < n → P i (l.getD i default)
  | 0, _ => ⟨[], rfl, fun i hi => by omega⟩
  | n + 1, h => by
    obtain ⟨l, hl, hp⟩ := choose_list P n (fun i hi => h i (by omega))
    obtain ⟨x, hx⟩ := h n (by omega)
    refine ⟨l ++ [x], by simp [hl], fun i hi => ?_⟩
    by_cases e : i < n
    · have : (l ++ [x]).getD i default = l.getD i default := by simp [List.getD_eq_getElem?_getD, List.getElem?_append, hl, e]
      rw [this]
      exact hp i e
    · have e' : i = l.length := by omega
      subst e'
      have : (l ++ [x]).getD l.length default = x := by simp [List.getD_eq_getElem?_getD]
      rw [this, hl]
      exact hx

theorem entsAt_of_cells {H : Type} {enc : TypeId × Value → H} {W : World} {fuel : Nat} {a0 : Option Addr} {len cap : Nat} {x : DataW H × List MemPlace} (h : DataW.trod enc Try.prog W 0 (fun _ => true) true fuel 37 [.slice a0 len cap] = some x) :
    ∃ es, len = List.length es ∧ EntsAt W W.heap.size a0 es ∧ es.length ≤ 9223372036854775807 := by
  obtain ⟨hm, hl, n, hall⟩ := trod_slice_cells Try.underlying37 (by rw [entCells73]; omega) h
  obtain ⟨es, h1, h2⟩ := choose_list (fun i e => ∃ b off, a0 = some ⟨b, off, none⟩ ∧ b < W.heap.size ∧ ∃ cs, cellsAt W b (off + i * 73) cs ∧ EntCells cs e) len (fun i hi => by
    obtain ⟨b, off, e1, e2, cs, y, e3, e4, e5⟩ := hall i hi
    obtain ⟨e, he⟩ := entCells_of e5
    rw [entCells73] at e4
    exact ⟨e, b, off, e1, e2, cs, e4, he⟩)
  exact ⟨es, h1.symm, fun i hi => h2 i (by omega), by unfold maxLen at hm; omega⟩

set_option maxRecDepth 100000 in
theorem loads_lifted (os : Os) (started : os.Started) (H : Type) (enc : TypeId × Value → H) :
    ReturnsInHanded {} Try.checked os 6 .any (Rows.postLoadsSpec.pre6 enc Try.prog Try.f6 Rows.postLoadsRow.domain false) (Rows.postLoadsSpec.post enc Try.prog Try.f6 false true false false) := by
  refine returnsInHanded_of_change (C := Try.checked) Try.own started (by kernel_rfl) Try.func6
    (ChangeSpec.witness6 (enc := enc) (C := Try.checked) false ⟨#[], #[.slice none 0 0], []⟩ 8 (by kernel_rfl) (by kernel_rfl) (by kernel_rfl) (by kernel_rfl)) ?_
  intro W base args ds gs before hval0 hW _ _
  have hval : ∀ (j : Nat) t v, Try.f6.params[j]? = some t → args[j]? = some v → Value.okWide Try.prog W .any base t v := hval0
  have hW' := hW
  obtain ⟨p, q, hA0, hV, rfl, hfz, hnd⟩ := hW
  have hA : DataW.TrodAll enc Try.prog W 0 (fun _ => true) true Try.f6.params.toList args.toList ds p := hA0
  rw [Try.params6] at hA hval
  obtain ⟨v0, d0, rfl, rfl, h0⟩ := trodAll_one hA
  obtain ⟨a0, len, cap, rfl⟩ := okWide_slice Try.underlying37 (hval 0 37 v0 rfl rfl)
  obtain ⟨fuel, hf⟩ := h0
  obtain ⟨es, rfl, hes, hlen⟩ := entsAt_of_cells hf
  refine (loads_any a0 cap es W hes hlen).mono fun e W' ⟨he, hb⟩ => ?_
  subst he
  exact ⟨_, rfl, law_post Try.laidOut (tb := 4) rfl Try.underlying4 (by rw [Try.params6]; exact readEnts) rfl hW' ⟨rfl, rfl, rfl⟩ hb⟩

/-- A log that is loaded is as if what it has had been sent, and had come: PostLoads returns true at every input. -/
theorem loads_holds : Rows.PostLoadsSaid :=
  OpenClaim.holds_of_wide 6 Try.f6 rfl rfl rfl rfl rfl rfl rfl ⟨rfl, rfl, rfl, rfl, rfl⟩ rfl rfl rfl rfl rfl (by kernel_rfl) Try.func6 (by kernel_rfl)
    (of_decide_eq_true (by kernel_rfl)) (by unfold Func.isWrapper; first | (rw [if_pos (by decide +kernel)]; kernel_rfl) | (rw [if_neg (by decide +kernel)]; exact ⟨rfl, rfl⟩))
    (fun os started H enc _ => loads_lifted os started H enc)
#print axioms loads_holds
end Go.Proofs.Ytamnffcafbfojaa
