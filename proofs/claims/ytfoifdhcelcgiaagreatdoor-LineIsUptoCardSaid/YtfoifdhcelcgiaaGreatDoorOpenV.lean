/-
  A text and a number that come in.
-/
import Derived.Test.YtfoifdhcelcgiaaGreatDoorJm
import Derived.Test.YtfoifdhcelcgiaaGreatDoorJl
namespace Go.Proofs.YtfoifdhcelcgiaaGreatDoor
open Go Go.ChangeShapes Go.WideShapes Go.ChangeAt Go.RowKit

section
variable {H : Type} {enc : TypeId × Value → H} {W : World} {base : Nat} {sp : Nat → Bool} {held : Bool}
set_option maxRecDepth 100000 in
theorem open_intv {r : Reach} {bs : Nat} {v : Value} {fuel : Nat} {x : DataW H × List MemPlace} (ho : Value.okWide Tryz.prog W r bs 3 v) (h : DataW.trod enc Tryz.prog W base sp held fuel 3 v.cells.toList = some x) : ∃ n, v = .int .i64 n ∧ i64R n := by
  obtain ⟨n, rfl⟩ := okWide_int Tryz.underlying3 ho
  obtain ⟨k, hk, hr⟩ := open_i64 h
  simp only [Value.cells, List.cons.injEq, Value.int.injEq, true_and, and_true] at hk
  exact ⟨n, rfl, by rw [hk]; exact hr⟩
set_option maxRecDepth 100000 in
theorem open_strv {r : Reach} {bs : Nat} {v : Value} {fuel : Nat} {x : DataW H × List MemPlace} (ho : Value.okWide Tryz.prog W r bs 9 v) (h : DataW.trod enc Tryz.prog W base sp held fuel 9 v.cells.toList = some x) : ∃ s : List UInt8, v = txt s ∧ s.length < Rows.uptoBulk x.1 := by
  obtain ⟨s, rfl⟩ := okWide_string Tryz.underlying9 ho
  obtain ⟨l, hk, hr⟩ := open_txt h
  simp only [Value.cells, List.cons.injEq, and_true] at hk
  exact ⟨l, hk, hr⟩
end
theorem src_ints {W : World} {a : Option Addr} {zs : List Int} (h : IntsAt W a zs) : Src W a (zs.map (Value.int .i64)) := ⟨fun j u hj => by
  rw [List.getElem?_map] at hj
  cases hz : zs[j]? with
  | none => rw [hz] at hj; cases hj
  | some z =>
    rw [hz] at hj
    have hu : u = .int .i64 z := (Option.some.inj hj).symm
    have hlt := (List.getElem?_eq_some_iff.1 hz).1
    obtain ⟨b, off, e, _, hc, _⟩ := h j hlt
    refine ⟨b, off, e, ?_⟩
    have hg : zs.getD j 0 = z := by simp [List.getD, hz]
    rw [hu, ← hg]
    exact hc⟩
end Go.Proofs.YtfoifdhcelcgiaaGreatDoor
