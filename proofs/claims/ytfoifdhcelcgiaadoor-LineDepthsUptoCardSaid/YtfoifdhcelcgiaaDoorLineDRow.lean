/-
  In the row depths never fall, and names of one depth rise; Row has the operations of Order, one by one: LineDepths returns true at every input, and its arguments read as they did. Conditions: the arguments hold together at most 1048576 values and letters; the tables sha.start and sha.round hold what the program's text lays.
-/
import Derived.Test.YtfoifdhcelcgiaaDoorLineD
import Derived.Test.YtfoifdhcelcgiaaDoorJm
namespace Go.Proofs.YtfoifdhcelcgiaaDoor
open Go Go.ChangeShapes Go.WideShapes Go.ChangeAt Go.RowKit

def lineDepths_wits : Array Value := #[.slice none 0 0]
theorem lineDepths_laid_met (os : Os) : laidMet Tryd.prog Rows.lineDepthsUptoRow.laid ((laidWorld os).forCall (fun _ _ => 0) ⟨#[], lineDepths_wits, []⟩).memory :=
  laidMet_of_run' 8 (by kernel_rfl) (by kernel_rfl)
theorem lineDepths_reads (os : Os) {H : Type} (enc : TypeId × Value → H) : ∃ places, DataW.whole enc Tryd.prog ((laidWorld os).forCall (fun _ _ => 0) ⟨#[], lineDepths_wits, []⟩).memory Tryd.f6.params.toList Rows.lineDepthsSpec.vars false lineDepths_wits.toList 8 = some ([.nil], [], places) :=
  ⟨[], by kernel_rfl⟩

set_option maxRecDepth 100000 in
theorem lineDepths_lifted (os : Os) (started : os.Started) (H : Type) (enc : TypeId × Value → H) (F : Stop.Interp) :
    ReturnsInHanded {} Tryd.checked os 6 .any ((Rows.OpenSpec.upto Rows.lineDepthsSpec).preRow enc Tryd.prog Tryd.f6 Rows.lineDepthsUptoRow.domain false Rows.lineDepthsUptoRow.laid)
      (((Rows.OpenSpec.upto Rows.lineDepthsSpec).at F).post enc Tryd.prog Tryd.f6 false true false false) := by
  obtain ⟨places, hx⟩ := lineDepths_reads os enc
  refine returnsInHanded_of_row (C := Tryd.checked) (s := Rows.OpenSpec.upto Rows.lineDepthsSpec) Tryd.own started (by kernel_rfl) Tryd.func6
    (witness_row_at (enc := enc) (C := Tryd.checked) false (laidWorld os) lineDepths_wits rfl (by kernel_rfl) (by kernel_rfl) (by kernel_rfl)
      (OpenSpec.preRow_of_cond 8 hx (by kernel_rfl) (fun k hk => by cases hk; kernel_rfl) (by kernel_rfl) (lineDepths_laid_met os))) ?_
  intro W base args ds gs before hval hW _ hcond _ hL _ _
  have hbulk := bulk_of hcond
  have hW' := hW
  obtain ⟨p, q, hA0, hV, rfl, hfz, hnd⟩ := hW
  have hA : DataW.TrodAll enc Tryd.prog W 0 (fun _ => true) true Tryd.f6.params.toList args.toList ds p := hA0
  rw [Tryd.params6] at hA hval
  obtain ⟨v0, vs0, d0, ds0, p0, q0, hargs, rfl, rfl, h0, r0⟩ := trodAll_cons hA
  obtain ⟨rfl, rfl, rfl⟩ := trodAll_nil r0
  obtain rfl : args = #[v0] := by cases args; simp_all
  obtain ⟨a0, len0, cap0, rfl⟩ := okWide_slice Tryd.underlying22 (hval 0 22 v0 rfl rfl)
  obtain ⟨fuel0, hf0⟩ := h0
  simp only [List.cons_append, Rows.uptoBulkAll] at hbulk
  obtain ⟨M, rfl, hM, hMs, hps, hMl⟩ := open_mks hf0 (by
    show Rows.uptoBulk d0 ≤ 1048576
    omega)
  refine (depths_any M hM a0 cap0 W (tabs_of hL) hMs hps hMl).mono fun e W' ⟨he, hb⟩ => ?_
  subst he
  exact ⟨_, rfl, law_post laidOut (tb := 4) rfl Tryd.underlying4 (by
    rw [Tryd.params6]
    intro t ht
    simp at ht
    subst ht; exact ⟨by kernel_rfl, of_decide_eq_true (by kernel_rfl)⟩) rfl hW' ⟨rfl, rfl, rfl⟩ hb⟩

theorem lineDepths_said : Rows.LineDepthsUptoSaid :=
  OpenClaim.holds_of_cond 6 Tryd.f6 rfl rfl rfl rfl rfl rfl rfl ⟨rfl, rfl, rfl, rfl, rfl⟩ rfl rfl rfl rfl rfl (by kernel_rfl) Tryd.func6 (by kernel_rfl)
    (of_decide_eq_true (by kernel_rfl)) (by unfold Func.isWrapper; first | (rw [if_pos (by decide +kernel)]; kernel_rfl) | (rw [if_neg (by decide +kernel)]; exact ⟨rfl, rfl⟩))
    (fun os started H enc _ F => by rw [OpenClaim.pre_eq_preRow]; exact lineDepths_lifted os started H enc F)

theorem lineDepths_plain (f : FuncId) (fn : Func) (hf : Tryd.pinned.checked.prog.funcNamed "tribunal/tribunallaw11.LineDepths" = some f) (hfn : Tryd.pinned.checked.prog.funcs[f]? = some fn) :
    false = Tryd.pinned.checked.prog.looks [] ∧ ∀ (j : Nat) t, fn.params[j]? = some t → Tryd.pinned.checked.prog.wantsStandIn t = false := by
  obtain rfl : f = 6 := Option.some.inj ((show Tryd.prog.funcNamed "tribunal/tribunallaw11.LineDepths" = some 6 by kernel_rfl).symm.trans hf) |>.symm
  obtain rfl : fn = Tryd.f6 := (Option.some.inj (Tryd.func6.symm.trans hfn)).symm
  refine ⟨by kernel_rfl, fun j t ht => ?_⟩
  rw [Tryd.params6] at ht
  have hm := Array.mem_of_getElem? ht
  simp at hm
  subst hm
  exact (show Tryd.prog.wantsStandIn 22 = false by kernel_rfl)

/-- LineDepths returns true at every input of bulk at most 1048576: the card. -/
theorem lineDepths_card : Rows.LineDepthsUptoCardSaid :=
  Claim7.holds_tied_plain_at .later [] _ _ _ _ lineDepths_said (fun _ h => by cases h) (by kernel_rfl) (fun _ h => by cases h) lineDepthsUpto_row_tie rfl ⟨rfl, rfl⟩ (by kernel_rfl) rfl lineDepths_plain (by kernel_rfl)
#print axioms lineDepths_card
end Go.Proofs.YtfoifdhcelcgiaaDoor
