/-
  Whatever comes, in whatever order, each answer and what is there are the document's; a nil set: DagDoes returns true at every input, and its arguments read as they did. Conditions: the arguments hold together at most 1048576 values and letters; the tables sha.start and sha.round hold what the program's text lays.
-/
import Derived.Test.YtfoifdhcelcgiaaDoorLawD
import Derived.Test.YtfoifdhcelcgiaaDoorJm
namespace Go.Proofs.YtfoifdhcelcgiaaDoor
open Go Go.ChangeShapes Go.WideShapes Go.ChangeAt Go.RowKit

theorem cells33 : Tryd.prog.cellsOf 33 = 32 := by kernel_rfl
theorem open_bytes {H : Type} {enc : TypeId × Value → H} {W : World} {base : Nat} {sp : Nat → Bool} {held : Bool} {fuel : Nat} {cs : List Value} {x : DataW H × List MemPlace} (h : DataW.trod enc Tryd.prog W base sp held fuel 33 cs = some x) : ∃ l : List UInt8, l.length = 32 ∧ cs = bcs l := by
  obtain ⟨m, rfl⟩ := trod_fuel h
  obtain ⟨hl, hall⟩ := trod_array Tryd.underlying33 h
  rw [cells33] at hl
  have key : ∀ i, i < 32 → ∃ b : UInt8, cs[i]? = some (bv b) := fun i hi => by
    obtain ⟨y, hy⟩ := hall i hi
    obtain ⟨n, e, hw⟩ := trod_int_cell Tryd.underlying5 hy
    rw [cells5, Nat.mul_one] at e
    have hc := field_cell e
    have hr : 0 ≤ n ∧ n ≤ 255 := by
      simp [Lit.wf, IntKind.min, IntKind.max, IntKind.signed, IntKind.bits] at hw
      omega
    refine ⟨UInt8.ofNat n.toNat, ?_⟩
    have h2 : (UInt8.ofNat n.toNat).toNat = n.toNat := by simp; omega
    have h3 : n = ((UInt8.ofNat n.toNat).toNat : Int) := by rw [h2]; omega
    rw [hc]
    exact congrArg (fun z => some (Value.int .u8 z)) h3
  refine ⟨cs.map (fun v => match v with | .int _ n => UInt8.ofNat n.toNat | _ => 0), by simp [hl], ?_⟩
  apply List.ext_getElem?
  intro i
  rcases Nat.lt_or_ge i 32 with h1 | h1
  · obtain ⟨b, hb⟩ := key i h1
    simp only [bcs, List.map_map, List.getElem?_map, hb, Option.map_some]
    simp
  · rw [List.getElem?_eq_none (by omega), List.getElem?_eq_none (by simp [bcs]; omega)]

def wits : Array Value := #[.slice none 0 0, .slice none 0 0, .agg (fillB [] 32), .int .i64 0, .agg zeroOp.d.cs.toArray]
def noughts {H : Type} : DataW H := .agg (List.replicate 32 (.lit (.int .u8 0)))
theorem does_laid_met (os : Os) : laidMet Tryd.prog Rows.dagDoesUptoRow.laid ((laidWorld os).forCall (fun _ _ => 0) ⟨#[], wits, []⟩).memory :=
  laidMet_of_run' 8 (by kernel_rfl) (by kernel_rfl)
theorem does_reads (os : Os) {H : Type} (enc : TypeId × Value → H) : ∃ places, DataW.whole enc Tryd.prog ((laidWorld os).forCall (fun _ _ => 0) ⟨#[], wits, []⟩).memory Tryd.f5.params.toList Rows.dagDoesSpec.vars false wits.toList 8 = some ([.nil, .nil, noughts, .lit (.int .i64 0), .agg [.lit (.int .i64 0), .lit (.string []), .lit (.string []), noughts]], [], places) :=
  ⟨[], by kernel_rfl⟩

set_option maxRecDepth 100000 in
theorem does_lifted (os : Os) (started : os.Started) (H : Type) (enc : TypeId × Value → H) (F : Stop.Interp) :
    ReturnsInHanded {} Tryd.checked os 5 .any ((Rows.OpenSpec.upto Rows.dagDoesSpec).preRow enc Tryd.prog Tryd.f5 Rows.dagDoesUptoRow.domain false Rows.dagDoesUptoRow.laid)
      (((Rows.OpenSpec.upto Rows.dagDoesSpec).at F).post enc Tryd.prog Tryd.f5 false true false false) := by
  obtain ⟨places, hx⟩ := does_reads os enc
  refine returnsInHanded_of_row (C := Tryd.checked) (s := Rows.OpenSpec.upto Rows.dagDoesSpec) Tryd.own started (by kernel_rfl) Tryd.func5
    (witness_row_at (enc := enc) (C := Tryd.checked) false (laidWorld os) wits rfl (by kernel_rfl) (by kernel_rfl) (by kernel_rfl)
      (OpenSpec.preRow_of_cond 8 hx (by kernel_rfl) (fun k hk => by cases hk; kernel_rfl) (by kernel_rfl) (does_laid_met os))) ?_
  intro W base args ds gs before hval hW _ hcond _ hL _ _
  have hbulk := bulk_of hcond
  have hW' := hW
  obtain ⟨p, q, hA0, hV, rfl, hfz, hnd⟩ := hW
  have hA : DataW.TrodAll enc Tryd.prog W 0 (fun _ => true) true Tryd.f5.params.toList args.toList ds p := hA0
  rw [Tryd.params5] at hA hval
  obtain ⟨v0, vs0, d0, ds0, p0, q0, hargs, rfl, rfl, h0, r0⟩ := trodAll_cons hA
  obtain ⟨v1, vs1, d1, ds1, p1, q1, rfl, rfl, rfl, h1, r1⟩ := trodAll_cons r0
  obtain ⟨v2, vs2, d2, ds2, p2, q2, rfl, rfl, rfl, h2, r2⟩ := trodAll_cons r1
  obtain ⟨v3, vs3, d3, ds3, p3, q3, rfl, rfl, rfl, h3, r3⟩ := trodAll_cons r2
  obtain ⟨v4, vs4, d4, ds4, p4, q4, rfl, rfl, rfl, h4, r4⟩ := trodAll_cons r3
  obtain ⟨rfl, rfl, rfl⟩ := trodAll_nil r4
  obtain rfl : args = #[v0, v1, v2, v3, v4] := by cases args; simp_all
  obtain ⟨a0, len0, cap0, rfl⟩ := okWide_slice Tryd.underlying22 (hval 0 22 v0 rfl rfl)
  obtain ⟨a1, len1, cap1, rfl⟩ := okWide_slice Tryd.underlying23 (hval 1 23 v1 rfl rfl)
  have o2 : Value.okWide Tryd.prog W .any base 33 v2 := hval 2 33 v2 rfl rfl
  have o4 : Value.okWide Tryd.prog W .any base 36 v4 := hval 4 36 v4 rfl rfl
  unfold Value.okWide at o2 o4
  rw [Tryd.underlying33] at o2
  rw [Tryd.underlying36] at o4
  obtain ⟨c2, rfl, _, _⟩ := o2
  obtain ⟨c4, rfl, _, _⟩ := o4
  obtain ⟨fuel0, hf0⟩ := h0
  obtain ⟨fuel1, hf1⟩ := h1
  obtain ⟨fuel2, hf2⟩ := h2
  obtain ⟨fuel3, hf3⟩ := h3
  obtain ⟨fuel4, hf4⟩ := h4
  simp only [List.cons_append, Rows.uptoBulkAll] at hbulk
  obtain ⟨M, rfl, hM, hMs, hps, hMl⟩ := open_mks hf0 (by
    show Rows.uptoBulk d0 ≤ 1048576
    omega)
  obtain ⟨zs, rfl, hzs, hzl⟩ := open_zs hf1
  obtain ⟨nm, hnm, e2⟩ := open_bytes hf2
  obtain ⟨au, e3, hau⟩ := open_i64 hf3
  obtain ⟨d, e4, hd⟩ := open_dr hf4 (by
    show Rows.uptoBulk d4 ≤ 1048576
    omega)
  have t2 : c2 = (bcs nm).toArray := by
    have : c2.toList = bcs nm := e2
    rw [← this]
  have t4 : c4 = d.cs.toArray := by
    have : c4.toList = d.cs := e4
    rw [← this]
  have t3 : v3 = .int .i64 au := by
    have o3 := hval 3 3 v3 rfl rfl
    obtain ⟨k3, rfl, _⟩ := open_int Tryd.underlying3 o3 ⟨fuel3, hf3⟩
    simpa [Value.cells] using e3
  subst t2 t3 t4
  refine (does_any M hM a0 cap0 W (tabs_of hL) hMs hps hMl a1 cap1 zs hzs hzl nm hnm au hau d hd).mono fun e W' ⟨he, hb⟩ => ?_
  subst he
  exact ⟨_, rfl, law_post laidOut (tb := 4) rfl Tryd.underlying4 (by
    rw [Tryd.params5]
    intro t ht
    simp at ht
    rcases ht with rfl | rfl | rfl | rfl | rfl <;> exact ⟨by kernel_rfl, of_decide_eq_true (by kernel_rfl)⟩) rfl hW' ⟨rfl, rfl, rfl⟩ hb⟩

theorem does_said : Rows.DagDoesUptoSaid :=
  OpenClaim.holds_of_cond 5 Tryd.f5 rfl rfl rfl rfl rfl rfl rfl ⟨rfl, rfl, rfl, rfl, rfl⟩ rfl rfl rfl rfl rfl (by kernel_rfl) Tryd.func5 (by kernel_rfl)
    (of_decide_eq_true (by kernel_rfl)) (by unfold Func.isWrapper; first | (rw [if_pos (by decide +kernel)]; kernel_rfl) | (rw [if_neg (by decide +kernel)]; exact ⟨rfl, rfl⟩))
    (fun os started H enc _ F => by rw [OpenClaim.pre_eq_preRow]; exact does_lifted os started H enc F)

theorem does_plain (f : FuncId) (fn : Func) (hf : Tryd.pinned.checked.prog.funcNamed "tribunal/tribunallaw10.DagDoes" = some f) (hfn : Tryd.pinned.checked.prog.funcs[f]? = some fn) :
    false = Tryd.pinned.checked.prog.looks [] ∧ ∀ (j : Nat) t, fn.params[j]? = some t → Tryd.pinned.checked.prog.wantsStandIn t = false := by
  obtain rfl : f = 5 := Option.some.inj ((show Tryd.prog.funcNamed "tribunal/tribunallaw10.DagDoes" = some 5 by kernel_rfl).symm.trans hf) |>.symm
  obtain rfl : fn = Tryd.f5 := (Option.some.inj (Tryd.func5.symm.trans hfn)).symm
  refine ⟨by kernel_rfl, fun j t ht => ?_⟩
  rw [Tryd.params5] at ht
  have hm := Array.mem_of_getElem? ht
  simp at hm
  rcases hm with rfl | rfl | rfl | rfl | rfl
  · exact (show Tryd.prog.wantsStandIn 22 = false by kernel_rfl)
  · exact (show Tryd.prog.wantsStandIn 23 = false by kernel_rfl)
  · exact (show Tryd.prog.wantsStandIn 33 = false by kernel_rfl)
  · exact (show Tryd.prog.wantsStandIn 3 = false by kernel_rfl)
  · exact (show Tryd.prog.wantsStandIn 36 = false by kernel_rfl)

/-- DagDoes returns true at every input of bulk at most 1048576: the card. -/
theorem does_card : Rows.DagDoesUptoCardSaid :=
  Claim7.holds_tied_plain_at .later [] _ _ _ _ does_said (fun _ h => by cases h) (by kernel_rfl) (fun _ h => by cases h) dagDoesUpto_row_tie rfl ⟨rfl, rfl⟩ (by kernel_rfl) rfl does_plain (by kernel_rfl)
#print axioms does_card
end Go.Proofs.YtfoifdhcelcgiaaDoor
