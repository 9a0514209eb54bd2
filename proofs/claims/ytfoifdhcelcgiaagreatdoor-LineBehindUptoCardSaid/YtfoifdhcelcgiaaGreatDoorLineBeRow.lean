/-
  Each operation stands in the row behind all that stands ahead of it; all are in it, each once: LineBehind returns true at every input, and its arguments read as they did. Conditions: the arguments hold together at most 1048576 values and letters; the tables sha.start and sha.round hold what the program's text lays.
-/
import Derived.Test.YtfoifdhcelcgiaaGreatDoorLineBe
import Derived.Test.YtfoifdhcelcgiaaGreatDoorJm
namespace Go.Proofs.YtfoifdhcelcgiaaGreatDoor
open Go Go.ChangeShapes Go.WideShapes Go.ChangeAt Go.RowKit

def lineBehind_wits : Array Value := #[.slice none 0 0]
theorem lineBehind_laid_met (os : Os) : laidMet Tryz.prog Rows.lineBehindUptoRow.laid ((laidWorld os).forCall (fun _ _ => 0) ⟨#[], lineBehind_wits, []⟩).memory :=
  laidMet_of_run' 8 (by kernel_rfl) (by kernel_rfl)
theorem lineBehind_reads (os : Os) {H : Type} (enc : TypeId × Value → H) : ∃ places, DataW.whole enc Tryz.prog ((laidWorld os).forCall (fun _ _ => 0) ⟨#[], lineBehind_wits, []⟩).memory Tryz.f3.params.toList Rows.lineBehindSpec.vars false lineBehind_wits.toList 8 = some ([.nil], [], places) :=
  ⟨[], by kernel_rfl⟩

set_option maxRecDepth 100000 in
theorem lineBehind_lifted (os : Os) (started : os.Started) (H : Type) (enc : TypeId × Value → H) (F : Stop.Interp) :
    ReturnsInHanded {} Tryz.checked os 3 .any ((Rows.OpenSpec.upto Rows.lineBehindSpec).preRow enc Tryz.prog Tryz.f3 Rows.lineBehindUptoRow.domain false Rows.lineBehindUptoRow.laid)
      (((Rows.OpenSpec.upto Rows.lineBehindSpec).at F).post enc Tryz.prog Tryz.f3 false true false false) := by
  obtain ⟨places, hx⟩ := lineBehind_reads os enc
  refine returnsInHanded_of_row (C := Tryz.checked) (s := Rows.OpenSpec.upto Rows.lineBehindSpec) Tryz.own started (by kernel_rfl) Tryz.func3
    (witness_row_at (enc := enc) (C := Tryz.checked) false (laidWorld os) lineBehind_wits rfl (by kernel_rfl) (by kernel_rfl) (by kernel_rfl)
      (OpenSpec.preRow_of_cond 8 hx (by kernel_rfl) (fun k hk => by cases hk; kernel_rfl) (by kernel_rfl) (lineBehind_laid_met os))) ?_
  intro W base args ds gs before hval hW _ hcond _ hL _ _
  have hbulk := bulk_of hcond
  have hW' := hW
  obtain ⟨p, q, hA0, hV, rfl, hfz, hnd⟩ := hW
  have hA : DataW.TrodAll enc Tryz.prog W 0 (fun _ => true) true Tryz.f3.params.toList args.toList ds p := hA0
  rw [Tryz.params3] at hA hval
  obtain ⟨v0, vs0, d0, ds0, p0, q0, hargs, rfl, rfl, h0, r0⟩ := trodAll_cons hA
  obtain ⟨rfl, rfl, rfl⟩ := trodAll_nil r0
  obtain rfl : args = #[v0] := by cases args; simp_all
  obtain ⟨a0, len0, cap0, rfl⟩ := okWide_slice Tryz.underlying22 (hval 0 22 v0 rfl rfl)
  obtain ⟨fuel0, hf0⟩ := h0
  simp only [List.cons_append, Rows.uptoBulkAll] at hbulk
  obtain ⟨M, rfl, hM, hMs, hps, hMl⟩ := open_mks hf0 (by
    show Rows.uptoBulk d0 ≤ 1048576
    omega)
  refine (behind_any M hM a0 cap0 W (tabs_of hL) hMs hps hMl).mono fun e W' ⟨he, hb⟩ => ?_
  subst he
  exact ⟨_, rfl, law_post laidOut (tb := 4) rfl Tryz.underlying4 (by
    rw [Tryz.params3]
    intro t ht
    simp at ht
    subst ht; exact ⟨by kernel_rfl, of_decide_eq_true (by kernel_rfl)⟩) rfl hW' ⟨rfl, rfl, rfl⟩ hb⟩

theorem lineBehind_said : Rows.LineBehindUptoSaid :=
  OpenClaim.holds_of_cond 3 Tryz.f3 rfl rfl rfl rfl rfl rfl rfl ⟨rfl, rfl, rfl, rfl, rfl⟩ rfl rfl rfl rfl rfl (by kernel_rfl) Tryz.func3 (by kernel_rfl)
    (of_decide_eq_true (by kernel_rfl)) (by unfold Func.isWrapper; first | (rw [if_pos (by decide +kernel)]; kernel_rfl) | (rw [if_neg (by decide +kernel)]; exact ⟨rfl, rfl⟩))
    (fun os started H enc _ F => by rw [OpenClaim.pre_eq_preRow]; exact lineBehind_lifted os started H enc F)

theorem lineBehind_plain (f : FuncId) (fn : Func) (hf : Tryz.pinned.checked.prog.funcNamed "tribunal/tribunallaw11.LineBehind" = some f) (hfn : Tryz.pinned.checked.prog.funcs[f]? = some fn) :
    false = Tryz.pinned.checked.prog.looks [] ∧ ∀ (j : Nat) t, fn.params[j]? = some t → Tryz.pinned.checked.prog.wantsStandIn t = false := by
  obtain rfl : f = 3 := Option.some.inj ((show Tryz.prog.funcNamed "tribunal/tribunallaw11.LineBehind" = some 3 by kernel_rfl).symm.trans hf) |>.symm
  obtain rfl : fn = Tryz.f3 := (Option.some.inj (Tryz.func3.symm.trans hfn)).symm
  refine ⟨by kernel_rfl, fun j t ht => ?_⟩
  rw [Tryz.params3] at ht
  have hm := Array.mem_of_getElem? ht
  simp at hm
  subst hm
  exact (show Tryz.prog.wantsStandIn 22 = false by kernel_rfl)

/-- LineBehind returns true at every input of bulk at most 1048576: the card. -/
theorem lineBehind_card : Rows.LineBehindUptoCardSaid :=
  Claim7.holds_tied_plain_at .later [] _ _ _ _ lineBehind_said (fun _ h => by cases h) (by kernel_rfl) (fun _ h => by cases h) lineBehindUpto_row_tie rfl ⟨rfl, rfl⟩ (by kernel_rfl) rfl lineBehind_plain (by kernel_rfl)
#print axioms lineBehind_card
end Go.Proofs.YtfoifdhcelcgiaaGreatDoor
