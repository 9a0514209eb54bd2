/-
  What waits is just what was sent and hasn't been acked since: PostWaits returns true at every input, and its arguments read as they did.
-/
import Derived.Test.YtamnffcafbfojaaWaits
import Derived.Test.YtamnffcafbfojaaFirstRow
namespace Go.Proofs.Ytamnffcafbfojaa
open Go Go.ChangeShapes Go.WideShapes Go.ChangeAt Go.RowKit

theorem readWaits : ∀ t ∈ [22, 22, 3], Try.prog.readableRec t = true ∧ t < Try.prog.types.size := by
  intro t ht
  simp at ht
  rcases ht with rfl | rfl <;> exact ⟨by kernel_rfl, of_decide_eq_true (by kernel_rfl)⟩

set_option maxRecDepth 100000 in
theorem waits_lifted (os : Os) (started : os.Started) (H : Type) (enc : TypeId × Value → H) :
    ReturnsInHanded {} Try.checked os 3 .any (Rows.postWaitsSpec.pre6 enc Try.prog Try.f3 Rows.postWaitsRow.domain false) (Rows.postWaitsSpec.post enc Try.prog Try.f3 false true false false) := by
  refine returnsInHanded_of_change (C := Try.checked) Try.own started (by kernel_rfl) Try.func3
    (ChangeSpec.witness6 (enc := enc) (C := Try.checked) false ⟨#[], #[.slice none 0 0, .slice none 0 0, .int .i64 0], []⟩ 8 (by kernel_rfl) (by kernel_rfl) (by kernel_rfl) (by kernel_rfl)) ?_
  intro W base args ds gs before hval0 hW _ _
  have hval : ∀ (j : Nat) t v, Try.f3.params[j]? = some t → args[j]? = some v → Value.okWide Try.prog W .any base t v := hval0
  have hW' := hW
  obtain ⟨p, q, hA0, hV, rfl, hfz, hnd⟩ := hW
  have hA : DataW.TrodAll enc Try.prog W 0 (fun _ => true) true Try.f3.params.toList args.toList ds p := hA0
  rw [Try.params3] at hA hval
  obtain ⟨v0, v1, v2, d0, d1, d2, p0, p1, p2, rfl, rfl, rfl, h0, h1, h2⟩ := trodAll_three hA
  obtain ⟨a, cap, zs, rfl, hzs, hlen⟩ := intsAt_of_trod h0 (hval 0 22 v0 rfl rfl)
  obtain ⟨b, cap', ys, rfl, hys, hlen'⟩ := intsAt_of_trod h1 (hval 1 22 v1 rfl rfl)
  obtain ⟨x2, rfl, rfl, rfl, w2⟩ := open_int Try.underlying3 (hval 2 3 v2 rfl rfl) h2
  refine (waits_any a b cap cap' zs ys x2 W hzs hys (I64_of_wf w2) hlen hlen').mono fun e W' ⟨he, hb⟩ => ?_
  subst he
  exact ⟨_, rfl, law_post Try.laidOut (tb := 4) rfl Try.underlying4 (by rw [Try.params3]; exact readWaits) rfl hW' ⟨rfl, rfl, rfl⟩ hb⟩

/-- What waits is just what was sent and hasn't been acked since: PostWaits returns true at every input. -/
theorem waits_holds : Rows.PostWaitsSaid :=
  OpenClaim.holds_of_wide 3 Try.f3 rfl rfl rfl rfl rfl rfl rfl ⟨rfl, rfl, rfl, rfl, rfl⟩ rfl rfl rfl rfl rfl (by kernel_rfl) Try.func3 (by kernel_rfl)
    (of_decide_eq_true (by kernel_rfl)) (by unfold Func.isWrapper; first | (rw [if_pos (by decide +kernel)]; kernel_rfl) | (rw [if_neg (by decide +kernel)]; exact ⟨rfl, rfl⟩))
    (fun os started H enc _ => waits_lifted os started H enc)
#print axioms waits_holds
end Go.Proofs.Ytamnffcafbfojaa
