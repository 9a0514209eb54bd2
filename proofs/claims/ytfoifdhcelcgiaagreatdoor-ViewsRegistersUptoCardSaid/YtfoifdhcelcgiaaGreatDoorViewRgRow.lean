/-
  Value and Registers answer what the document says, of all sets and keys; a nil set: ViewsRegisters returns true at every input, and its arguments read as they did. Conditions: the arguments hold together at most 1048576 values and letters; the tables sha.start and sha.round hold what the program's text lays.
-/
import Derived.Test.YtfoifdhcelcgiaaGreatDoorViewRg
import Derived.Test.YtfoifdhcelcgiaaGreatDoorJm
import Derived.Test.YtfoifdhcelcgiaaGreatDoorOpenV
namespace Go.Proofs.YtfoifdhcelcgiaaGreatDoor
open Go Go.ChangeShapes Go.WideShapes Go.ChangeAt Go.RowKit

def viewsRegisters_wits : Array Value := #[.slice none 0 0, .string ⟨#[]⟩]
theorem viewsRegisters_laid_met (os : Os) : laidMet Tryz.prog Rows.viewsRegistersUptoRow.laid ((laidWorld os).forCall (fun _ _ => 0) ⟨#[], viewsRegisters_wits, []⟩).memory :=
  laidMet_of_run' 8 (by kernel_rfl) (by kernel_rfl)
theorem viewsRegisters_reads (os : Os) {H : Type} (enc : TypeId × Value → H) : ∃ places, DataW.whole enc Tryz.prog ((laidWorld os).forCall (fun _ _ => 0) ⟨#[], viewsRegisters_wits, []⟩).memory Tryz.f7.params.toList Rows.viewsRegistersSpec.vars false viewsRegisters_wits.toList 8 = some ([.nil, .lit (.string [])], [], places) :=
  ⟨[], by kernel_rfl⟩

set_option maxRecDepth 100000 in
theorem viewsRegisters_lifted (os : Os) (started : os.Started) (H : Type) (enc : TypeId × Value → H) (F : Stop.Interp) :
    ReturnsInHanded {} Tryz.checked os 7 .any ((Rows.OpenSpec.upto Rows.viewsRegistersSpec).preRow enc Tryz.prog Tryz.f7 Rows.viewsRegistersUptoRow.domain false Rows.viewsRegistersUptoRow.laid)
      (((Rows.OpenSpec.upto Rows.viewsRegistersSpec).at F).post enc Tryz.prog Tryz.f7 false true false false) := by
  obtain ⟨places, hx⟩ := viewsRegisters_reads os enc
  refine returnsInHanded_of_row (C := Tryz.checked) (s := Rows.OpenSpec.upto Rows.viewsRegistersSpec) Tryz.own started (by kernel_rfl) Tryz.func7
    (witness_row_at (enc := enc) (C := Tryz.checked) false (laidWorld os) viewsRegisters_wits rfl (by kernel_rfl) (by kernel_rfl) (by kernel_rfl)
      (OpenSpec.preRow_of_cond 8 hx (by kernel_rfl) (fun k hk => by cases hk; kernel_rfl) (by kernel_rfl) (viewsRegisters_laid_met os))) ?_
  intro W base args ds gs before hval hW _ hcond _ hL _ _
  have hbulk := bulk_of hcond
  have hW' := hW
  obtain ⟨p, q, hA0, hV, rfl, hfz, hnd⟩ := hW
  have hA : DataW.TrodAll enc Tryz.prog W 0 (fun _ => true) true Tryz.f7.params.toList args.toList ds p := hA0
  rw [Tryz.params7] at hA hval
  obtain ⟨v0, vs0, d0, ds0, p0, q0, hargs, rfl, rfl, h0, r0⟩ := trodAll_cons hA
  obtain ⟨v1, vs1, d1, ds1, p1, q1, rfl, rfl, rfl, h1, r1⟩ := trodAll_cons r0
  obtain ⟨rfl, rfl, rfl⟩ := trodAll_nil r1
  obtain rfl : args = #[v0, v1] := by cases args; simp_all
  obtain ⟨a0, len0, cap0, rfl⟩ := okWide_slice Tryz.underlying22 (hval 0 22 v0 rfl rfl)
  obtain ⟨fuel0, hf0⟩ := h0
  obtain ⟨fuel1, hf1⟩ := h1
  simp only [List.cons_append, Rows.uptoBulkAll] at hbulk
  obtain ⟨M, rfl, hM, hMs, hps, hMl⟩ := open_mks hf0 (by
    show Rows.uptoBulk d0 ≤ 1048576
    omega)
  obtain ⟨s1, rfl, hs1⟩ := open_strv (hval 1 9 v1 rfl rfl) hf1
  refine (viewsRegs_any M hM a0 cap0 W (tabs_of hL) hMs hps hMl s1 (by have h : s1.length < Rows.uptoBulk d1 := hs1; omega)).mono fun e W' ⟨he, hb⟩ => ?_
  subst he
  exact ⟨_, rfl, law_post laidOut (tb := 4) rfl Tryz.underlying4 (by
    rw [Tryz.params7]
    intro t ht
    simp at ht
    rcases ht with rfl | rfl <;> exact ⟨by kernel_rfl, of_decide_eq_true (by kernel_rfl)⟩) rfl hW' ⟨rfl, rfl, rfl⟩ hb⟩

theorem viewsRegisters_said : Rows.ViewsRegistersUptoSaid :=
  OpenClaim.holds_of_cond 7 Tryz.f7 rfl rfl rfl rfl rfl rfl rfl ⟨rfl, rfl, rfl, rfl, rfl⟩ rfl rfl rfl rfl rfl (by kernel_rfl) Tryz.func7 (by kernel_rfl)
    (of_decide_eq_true (by kernel_rfl)) (by unfold Func.isWrapper; first | (rw [if_pos (by decide +kernel)]; kernel_rfl) | (rw [if_neg (by decide +kernel)]; exact ⟨rfl, rfl⟩))
    (fun os started H enc _ F => by rw [OpenClaim.pre_eq_preRow]; exact viewsRegisters_lifted os started H enc F)

theorem viewsRegisters_plain (f : FuncId) (fn : Func) (hf : Tryz.pinned.checked.prog.funcNamed "tribunal/tribunallaw12.ViewsRegisters" = some f) (hfn : Tryz.pinned.checked.prog.funcs[f]? = some fn) :
    false = Tryz.pinned.checked.prog.looks [] ∧ ∀ (j : Nat) t, fn.params[j]? = some t → Tryz.pinned.checked.prog.wantsStandIn t = false := by
  obtain rfl : f = 7 := Option.some.inj ((show Tryz.prog.funcNamed "tribunal/tribunallaw12.ViewsRegisters" = some 7 by kernel_rfl).symm.trans hf) |>.symm
  obtain rfl : fn = Tryz.f7 := (Option.some.inj (Tryz.func7.symm.trans hfn)).symm
  refine ⟨by kernel_rfl, fun j t ht => ?_⟩
  rw [Tryz.params7] at ht
  have hm := Array.mem_of_getElem? ht
  simp at hm
  rcases hm with rfl | rfl
  · exact (show Tryz.prog.wantsStandIn 22 = false by kernel_rfl)
  · exact (show Tryz.prog.wantsStandIn 9 = false by kernel_rfl)

/-- ViewsRegisters returns true at every input of bulk at most 1048576: the card. -/
theorem viewsRegisters_card : Rows.ViewsRegistersUptoCardSaid :=
  Claim7.holds_tied_plain_at .later [] _ _ _ _ viewsRegisters_said (fun _ h => by cases h) (by kernel_rfl) (fun _ h => by cases h) viewsRegistersUpto_row_tie rfl ⟨rfl, rfl⟩ (by kernel_rfl) rfl viewsRegisters_plain (by kernel_rfl)
#print axioms viewsRegisters_card
end Go.Proofs.YtfoifdhcelcgiaaGreatDoor
