/-
  What is there is closed, with each operation all that stands ahead of it, each depth right; what waits lacks something: DagClosed returns true at every input, and its arguments read as they did. Conditions: the arguments hold together at most 1048576 values and letters; the tables sha.start and sha.round hold what the program's text lays.
-/
import Derived.Test.YtfoifdhcelcgiaaDoorLawC
import Derived.Test.YtfoifdhcelcgiaaDoorJm
namespace Go.Proofs.YtfoifdhcelcgiaaDoor
open Go Go.ChangeShapes Go.WideShapes Go.ChangeAt Go.RowKit

theorem closed_laid_met (os : Os) : laidMet Tryd.prog Rows.dagClosedUptoRow.laid ((laidWorld os).forCall (fun _ _ => 0) ⟨#[], #[.slice none 0 0, .slice none 0 0], []⟩).memory :=
  laidMet_of_run' 8 (by kernel_rfl) (by kernel_rfl)
theorem closed_reads (os : Os) {H : Type} (enc : TypeId × Value → H) : ∃ places, DataW.whole enc Tryd.prog ((laidWorld os).forCall (fun _ _ => 0) ⟨#[], #[.slice none 0 0, .slice none 0 0], []⟩).memory Tryd.f3.params.toList Rows.dagClosedSpec.vars false #[Value.slice none 0 0, Value.slice none 0 0].toList 8 = some ([.nil, .nil], [], places) :=
  ⟨[], by kernel_rfl⟩

set_option maxRecDepth 100000 in
theorem closed_lifted (os : Os) (started : os.Started) (H : Type) (enc : TypeId × Value → H) (F : Stop.Interp) :
    ReturnsInHanded {} Tryd.checked os 3 .any ((Rows.OpenSpec.upto Rows.dagClosedSpec).preRow enc Tryd.prog Tryd.f3 Rows.dagClosedUptoRow.domain false Rows.dagClosedUptoRow.laid)
      (((Rows.OpenSpec.upto Rows.dagClosedSpec).at F).post enc Tryd.prog Tryd.f3 false true false false) := by
  obtain ⟨places, hx⟩ := closed_reads os enc
  refine returnsInHanded_of_row (C := Tryd.checked) (s := Rows.OpenSpec.upto Rows.dagClosedSpec) Tryd.own started (by kernel_rfl) Tryd.func3
    (witness_row_at (enc := enc) (C := Tryd.checked) false (laidWorld os) #[.slice none 0 0, .slice none 0 0] rfl (by kernel_rfl) (by kernel_rfl) (by kernel_rfl)
      (OpenSpec.preRow_of_cond 8 hx (by kernel_rfl) (fun k hk => by cases hk; kernel_rfl) (by kernel_rfl) (closed_laid_met os))) ?_
  intro W base args ds gs before hval hW _ hcond _ hL _ _
  have hbulk := bulk_of hcond
  have hW' := hW
  obtain ⟨p, q, hA0, hV, rfl, hfz, hnd⟩ := hW
  have hA : DataW.TrodAll enc Tryd.prog W 0 (fun _ => true) true Tryd.f3.params.toList args.toList ds p := hA0
  rw [Tryd.params3] at hA hval
  obtain ⟨v0, vs0, d0, ds0, p0, q0, hargs, rfl, rfl, h0, r0⟩ := trodAll_cons hA
  obtain ⟨v1, vs1, d1, ds1, p1, q1, rfl, rfl, rfl, h1, r1⟩ := trodAll_cons r0
  obtain ⟨rfl, rfl, rfl⟩ := trodAll_nil r1
  obtain rfl : args = #[v0, v1] := by cases args; simp_all
  obtain ⟨a0, len0, cap0, rfl⟩ := okWide_slice Tryd.underlying22 (hval 0 22 v0 rfl rfl)
  obtain ⟨a1, len1, cap1, rfl⟩ := okWide_slice Tryd.underlying23 (hval 1 23 v1 rfl rfl)
  obtain ⟨fuel0, hf0⟩ := h0
  obtain ⟨fuel1, hf1⟩ := h1
  obtain ⟨M, rfl, hM, hMs, hps, hMl⟩ := open_mks hf0 (by
    show Rows.uptoBulk d0 ≤ 1048576
    simp only [List.cons_append, Rows.uptoBulkAll] at hbulk
    omega)
  obtain ⟨zs, rfl, hzs, hzl⟩ := open_zs hf1
  refine (closed_any M hM a0 cap0 W (tabs_of hL) hMs hps hMl a1 cap1 zs hzs hzl).mono fun e W' ⟨he, hb⟩ => ?_
  subst he
  exact ⟨_, rfl, law_post laidOut (tb := 4) rfl Tryd.underlying4 (by
    rw [Tryd.params3]
    intro t ht
    refine readTypes t ?_
    simp at ht ⊢
    rcases ht with rfl | rfl <;> simp) rfl hW' ⟨rfl, rfl, rfl⟩ hb⟩

theorem closed_said : Rows.DagClosedUptoSaid :=
  OpenClaim.holds_of_cond 3 Tryd.f3 rfl rfl rfl rfl rfl rfl rfl ⟨rfl, rfl, rfl, rfl, rfl⟩ rfl rfl rfl rfl rfl (by kernel_rfl) Tryd.func3 (by kernel_rfl)
    (of_decide_eq_true (by kernel_rfl)) (by unfold Func.isWrapper; first | (rw [if_pos (by decide +kernel)]; kernel_rfl) | (rw [if_neg (by decide +kernel)]; exact ⟨rfl, rfl⟩))
    (fun os started H enc _ F => by rw [OpenClaim.pre_eq_preRow]; exact closed_lifted os started H enc F)

theorem closed_plain (f : FuncId) (fn : Func) (hf : Tryd.pinned.checked.prog.funcNamed "tribunal/tribunallaw10.DagClosed" = some f) (hfn : Tryd.pinned.checked.prog.funcs[f]? = some fn) :
    false = Tryd.pinned.checked.prog.looks [] ∧ ∀ (j : Nat) t, fn.params[j]? = some t → Tryd.pinned.checked.prog.wantsStandIn t = false := by
  obtain rfl : f = 3 := Option.some.inj ((show Tryd.prog.funcNamed "tribunal/tribunallaw10.DagClosed" = some 3 by kernel_rfl).symm.trans hf) |>.symm
  obtain rfl : fn = Tryd.f3 := (Option.some.inj (Tryd.func3.symm.trans hfn)).symm
  refine ⟨by kernel_rfl, fun j t ht => ?_⟩
  rw [Tryd.params3] at ht
  have hm := Array.mem_of_getElem? ht
  simp at hm
  rcases hm with rfl | rfl
  · exact (show Tryd.prog.wantsStandIn 22 = false by kernel_rfl)
  · exact (show Tryd.prog.wantsStandIn 23 = false by kernel_rfl)

/-- DagClosed returns true at every input of bulk at most 1048576: the card. -/
theorem closed_card : Rows.DagClosedUptoCardSaid :=
  Claim7.holds_tied_plain_at .later [] _ _ _ _ closed_said (fun _ h => by cases h) (by kernel_rfl) (fun _ h => by cases h) dagClosedUpto_row_tie rfl ⟨rfl, rfl⟩ (by kernel_rfl) rfl closed_plain (by kernel_rfl)
#print axioms closed_card
end Go.Proofs.YtfoifdhcelcgiaaDoor
