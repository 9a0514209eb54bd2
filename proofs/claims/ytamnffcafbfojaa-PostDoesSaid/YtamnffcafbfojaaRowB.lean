/-
  FROM A WALK THAT RETURNS true AND LEAVES OLD MEMORY ALONE TO A LAW'S ROW.
-/
import Derived.ProofKit
import Derived.SizedLaws
import Derived.Deep.CondSized
import Derived.Carry
namespace Go.Proofs.Ytamnffcafbfojaa
open Go Go.ChangeShapes Go.WideShapes Go.ChangeAt Go.RowKit

section
variable {H : Type} {enc : TypeId × Value → H} {P : Program}

theorem trodAll_below (hl : laidOutB P = true) {W W' : World} (hb : Below W.heap.size W W') :
    ∀ {ts : List TypeId} {vs : List Value} {ds : List (DataW H)} {ps : List MemPlace}, (∀ t ∈ ts, P.readableRec t = true ∧ t < P.types.size) → DataW.TrodAll enc P W 0 (fun _ => true) true ts vs ds ps →
      DataW.TrodAll enc P W' 0 (fun b => decide (b < W.heap.size)) true ts vs ds ps
  | [], [], [], _, _, h => h
  | t :: ts, v :: vs, d :: ds, ps, hr, ⟨p, q, h, hs, e⟩ =>
    ⟨p, q, Below.trod hl (hr t (by simp)).1 (hr t (by simp)).2 h hb (fun x hx => by
      have h1 : DataW.TrodAll enc P W 0 (fun _ => true) true (t :: ts) (v :: vs) (d :: ds) (p ++ q) := ⟨p, q, h, hs, rfl⟩
      exact h1.lt x (by simp [hx])), trodAll_below hl hb (fun t ht => hr t (by simp [ht])) hs, e⟩

/-- the row's end: true, and nothing old has turned -/
theorem law_post (hl : laidOutB P = true) {f : Func} {tb : TypeId} (hrt : f.resultTypes = #[tb]) (htb : P.underlying tb = some .bool) (hr : ∀ t ∈ f.params.toList, P.readableRec t = true ∧ t < P.types.size)
    {s : ChangeSpec} (hv : s.vars = []) {W W' : World} {args : Array Value} {ds gs : List (DataW H)} {before : List MemPlace} (hW : DataW.Whole enc P f.params.toList s.vars false W args.toList ds gs before)
    (hs : (s.fn H ds).results = [.lit (.bool true)] ∧ (s.fn H ds).args = ds ∧ (s.fn H ds).vars = []) (hb : Below W.heap.size W W') : s.post enc P f false true false false W args (.bool true) W' := by
  have hW' := hW
  obtain ⟨p, q, hA, hV, rfl, hfz, hnd⟩ := hW
  rw [hv] at hV
  obtain ⟨rfl, rfl⟩ := trodVars_none hV
  refine ⟨ds, [], p ++ [], [], p, [], hW', ?_, ?_, ?_, hb.frame _, fun h => by cases h⟩
  · rw [List.append_nil, hs.1, hrt]
    exact ⟨[], [], ⟨1, by simp [DataW.trod, htb, Value.cells]⟩, rfl, rfl⟩
  · rw [List.append_nil, hs.2.1]
    exact trodAll_below hl hb hr hA
  · rw [List.append_nil, hs.2.2, hv]
    rfl

end
end Go.Proofs.Ytamnffcafbfojaa
