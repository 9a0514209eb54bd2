/-
  Order, Row, Of and Keys answer what the document says, of all sets, keys and kinds; a nil set: LineIs returns true at every input, and its arguments read as they did. Conditions: the arguments hold together at most 1048576 values and letters; the tables sha.start and sha.round hold what the program's text lays.
-/
import Derived.Test.YtfoifdhcelcgiaaGreatDoorLineIs
import Derived.Test.YtfoifdhcelcgiaaGreatDoorJm
import Derived.Test.YtfoifdhcelcgiaaGreatDoorOpenV
namespace Go.Proofs.YtfoifdhcelcgiaaGreatDoor
open Go Go.ChangeShapes Go.WideShapes Go.ChangeAt Go.RowKit

def lineIs_wits : Array Value := #[.slice none 0 0, .string ⟨#[]⟩, .slice none 0 0]
theorem lineIs_laid_met (os : Os) : laidMet Tryz.prog Rows.lineIsUptoRow.laid ((laidWorld os).forCall (fun _ _ => 0) ⟨#[], lineIs_wits, []⟩).memory :=
  laidMet_of_run' 8 (by kernel_rfl) (by kernel_rfl)
theorem lineIs_reads (os : Os) {H : Type} (enc : TypeId × Value → H) : ∃ places, DataW.whole enc Tryz.prog ((laidWorld os).forCall (fun _ _ => 0) ⟨#[], lineIs_wits, []⟩).memory Tryz.f4.params.toList Rows.lineIsSpec.vars false lineIs_wits.toList 8 = some ([.nil, .lit (.string []), .nil], [], places) :=
  ⟨[], by kernel_rfl⟩

set_option maxRecDepth 100000 in
theorem lineIs_lifted (os : Os) (started : os.Started) (H : Type) (enc : TypeId × Value → H) (F : Stop.Interp) :
    ReturnsInHanded {} Tryz.checked os 4 .any ((Rows.OpenSpec.upto Rows.lineIsSpec).preRow enc Tryz.prog Tryz.f4 Rows.lineIsUptoRow.domain false Rows.lineIsUptoRow.laid)
      (((Rows.OpenSpec.upto Rows.lineIsSpec).at F).post enc Tryz.prog Tryz.f4 false true false false) := by
  obtain ⟨places, hx⟩ := lineIs_reads os enc
  refine returnsInHanded_of_row (C := Tryz.checked) (s := Rows.OpenSpec.upto Rows.lineIsSpec) Tryz.own started (by kernel_rfl) Tryz.func4
    (witness_row_at (enc := enc) (C := Tryz.checked) false (laidWorld os) lineIs_wits rfl (by kernel_rfl) (by kernel_rfl) (by kernel_rfl)
      (OpenSpec.preRow_of_cond 8 hx (by kernel_rfl) (fun k hk => by cases hk; kernel_rfl) (by kernel_rfl) (lineIs_laid_met os))) ?_
  intro W base args ds gs before hval hW _ hcond _ hL _ _
  have hbulk := bulk_of hcond
  have hW' := hW
  obtain ⟨p, q, hA0, hV, rfl, hfz, hnd⟩ := hW
  have hA : DataW.TrodAll enc Tryz.prog W 0 (fun _ => true) true Tryz.f4.params.toList args.toList ds p := hA0
  rw [Tryz.params4] at hA hval
  obtain ⟨v0, vs0, d0, ds0, p0, q0, hargs, rfl, rfl, h0, r0⟩ := trodAll_cons hA
  obtain ⟨v1, vs1, d1, ds1, p1, q1, rfl, rfl, rfl, h1, r1⟩ := trodAll_cons r0
  obtain ⟨v2, vs2, d2, ds2, p2, q2, rfl, rfl, rfl, h2, r2⟩ := trodAll_cons r1
  obtain ⟨rfl, rfl, rfl⟩ := trodAll_nil r2
  obtain rfl : args = #[v0, v1, v2] := by cases args; simp_all
  obtain ⟨a0, len0, cap0, rfl⟩ := okWide_slice Tryz.underlying22 (hval 0 22 v0 rfl rfl)
  obtain ⟨a2, len2, cap2, rfl⟩ := okWide_slice Tryz.underlying39 (hval 2 39 v2 rfl rfl)
  obtain ⟨fuel0, hf0⟩ := h0
  obtain ⟨fuel1, hf1⟩ := h1
  obtain ⟨fuel2, hf2⟩ := h2
  simp only [List.cons_append, Rows.uptoBulkAll] at hbulk
  obtain ⟨M, rfl, hM, hMs, hps, hMl⟩ := open_mks hf0 (by
    show Rows.uptoBulk d0 ≤ 1048576
    omega)
  obtain ⟨s1, rfl, hs1⟩ := open_strv (hval 1 9 v1 rfl rfl) hf1
  obtain ⟨zs, rfl, hzs, hzl⟩ := open_zs hf2
  refine (lineIs_any M hM a0 cap0 W (tabs_of hL) hMs hps hMl s1 (by have h : s1.length < Rows.uptoBulk d1 := hs1; omega) a2 cap2 zs (src_ints hzs) hzl).mono fun e W' ⟨he, hb⟩ => ?_
  subst he
  exact ⟨_, rfl, law_post laidOut (tb := 4) rfl Tryz.underlying4 (by
    rw [Tryz.params4]
    intro t ht
    simp at ht
    rcases ht with rfl | rfl | rfl <;> exact ⟨by kernel_rfl, of_decide_eq_true (by kernel_rfl)⟩) rfl hW' ⟨rfl, rfl, rfl⟩ hb⟩

theorem lineIs_said : Rows.LineIsUptoSaid :=
  OpenClaim.holds_of_cond 4 Tryz.f4 rfl rfl rfl rfl rfl rfl rfl ⟨rfl, rfl, rfl, rfl, rfl⟩ rfl rfl rfl rfl rfl (by kernel_rfl) Tryz.func4 (by kernel_rfl)
    (of_decide_eq_true (by kernel_rfl)) (by unfold Func.isWrapper; first | (rw [if_pos (by decide +kernel)]; kernel_rfl) | (rw [if_neg (by decide +kernel)]; exact ⟨rfl, rfl⟩))
    (fun os started H enc _ F => by rw [OpenClaim.pre_eq_preRow]; exact lineIs_lifted os started H enc F)

theorem lineIs_plain (f : FuncId) (fn : Func) (hf : Tryz.pinned.checked.prog.funcNamed "tribunal/tribunallaw11.LineIs" = some f) (hfn : Tryz.pinned.checked.prog.funcs[f]? = some fn) :
    false = Tryz.pinned.checked.prog.looks [] ∧ ∀ (j : Nat) t, fn.params[j]? = some t → Tryz.pinned.checked.prog.wantsStandIn t = false := by
  obtain rfl : f = 4 := Option.some.inj ((show Tryz.prog.funcNamed "tribunal/tribunallaw11.LineIs" = some 4 by kernel_rfl).symm.trans hf) |>.symm
  obtain rfl : fn = Tryz.f4 := (Option.some.inj (Tryz.func4.symm.trans hfn)).symm
  refine ⟨by kernel_rfl, fun j t ht => ?_⟩
  rw [Tryz.params4] at ht
  have hm := Array.mem_of_getElem? ht
  simp at hm
  rcases hm with rfl | rfl | rfl
  · exact (show Tryz.prog.wantsStandIn 22 = false by kernel_rfl)
  · exact (show Tryz.prog.wantsStandIn 9 = false by kernel_rfl)
  · exact (show Tryz.prog.wantsStandIn 39 = false by kernel_rfl)

/-- LineIs returns true at every input of bulk at most 1048576: the card. -/
theorem lineIs_card : Rows.LineIsUptoCardSaid :=
  Claim7.holds_tied_plain_at .later [] _ _ _ _ lineIs_said (fun _ h => by cases h) (by kernel_rfl) (fun _ h => by cases h) lineIsUpto_row_tie rfl ⟨rfl, rfl⟩ (by kernel_rfl) rfl lineIs_plain (by kernel_rfl)
#print axioms lineIs_card
end Go.Proofs.YtfoifdhcelcgiaaGreatDoor
