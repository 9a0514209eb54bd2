/-
  What stands ahead of an operation, over others too.
-/
import Derived.Test.YtfoifdhcelcgiaaGreatDoorPastK
import Derived.Test.YtfoifdhcelcgiaaGreatDoorPastO
import Derived.Test.YtfoifdhcelcgiaaGreatDoorLineP
import Derived.Test.YtfoifdhcelcgiaaGreatDoorJl
namespace Go.Proofs.YtfoifdhcelcgiaaGreatDoor
open Go Go.RowKit

def predsAt (l : List NOp) (n : Nm) : List Nm := ((opAt l n).map (·.preds)).getD []
/-- x stands ahead of n -/
inductive Anc (l : List NOp) : Nm → Nm → Prop
  | step {n x : Nm} : x ∈ predsAt l n → Anc l n x
  | more {n y x : Nm} : Anc l n y → x ∈ predsAt l y → Anc l n x
theorem predsAt_some {l : List NOp} {n : Nm} {o : OpV} (h : opAt l n = some o) : predsAt l n = o.preds := by simp [predsAt, h]
theorem pred_op {l : List NOp} {n x : Nm} (h : x ∈ predsAt l n) : ∃ o, opAt l n = some o ∧ x ∈ o.preds := by
  unfold predsAt at h
  cases ho : opAt l n with
  | none => rw [ho] at h; simp at h
  | some o => rw [ho] at h; exact ⟨o, rfl, by simpa using h⟩
theorem DInv.pred_in {s : DS} (h : DInv s) {n x : Nm} (hx : x ∈ predsAt s.ops n) : hasN s.ops x = true := by
  obtain ⟨o, ho, hxo⟩ := pred_op hx
  exact List.all_eq_true.1 (h.closed _ (opAt_some ho)).1 x hxo
theorem DInv.anc_in {s : DS} (h : DInv s) {n x : Nm} (hx : Anc s.ops n x) : hasN s.ops x = true := by
  cases hx with
  | step h1 => exact h.pred_in h1
  | more _ h2 => exact h.pred_in h2
theorem DInv.anc_dep {s : DS} (h : DInv s) (hb : ∀ e ∈ s.ops, e.2.depth ≤ 9223372036854775807) (hl : s.ops.length ≤ 1000000000) {n x : Nm} (hx : Anc s.ops n x) : depAt s.ops x < depAt s.ops n := by
  have key : ∀ {y z : Nm}, z ∈ predsAt s.ops y → depAt s.ops z < depAt s.ops y := fun {y z} hz => by
    obtain ⟨o, ho, hzo⟩ := pred_op hz
    obtain ⟨e, he, hen, hd⟩ := h.pred_less hb hl (opAt_some ho) hzo
    have h1 := depAt_in h.nd1 he
    have h2 := depAt_in h.nd1 (opAt_some ho)
    rw [hen] at h1
    show depAt s.ops z < depAt s.ops y
    rw [h1, h2]
    exact hd
  induction hx with
  | step h1 => exact key h1
  | more _ h2 ih => have := key h2; omega
theorem predsAt_len {w : World} {B : Nat → Prop} {O : List E3} (h : ∀ e ∈ O, e.Ok w B) (n : Nm) : (∀ x ∈ predsAt (O.map E3.ent) n, x.length = 32) ∧ (predsAt (O.map E3.ent) n).length ≤ 1048576 := by
  cases ho : opAt (O.map E3.ent) n with
  | none => simp [predsAt, ho]
  | some o =>
    obtain ⟨e, he, heq⟩ := List.mem_map.1 (opAt_some ho)
    have e2 : e.o = o := (Prod.mk.inj heq).2
    rw [predsAt_some ho, ← e2]
    exact ⟨(h e he).ok.ids, (h e he).ok.len⟩
theorem valAt_preds {w : World} {B : Nat → Prop} {O : List E3} (h : ∀ e ∈ O, e.Ok w B) (n : Nm) : ∃ p c, (valAt O n)[37]? = some (.slice p (predsAt (O.map E3.ent) n).length c) ∧ Src w p (pcs (predsAt (O.map E3.ent) n)) := by
  have key : ∀ (o : OpV) (p : Option Addr) (c : Nat), o.Ok → (o.cs p c)[37]? = some (.slice p o.preds.length c) := fun o p c ho => by
    unfold OpV.cs
    rw [List.getElem?_append_right (by rw [Dr.cs_length ho.d]; omega), Dr.cs_length ho.d]
    rfl
  unfold predsAt valAt
  rw [← e3At_ent]
  cases he : e3At O n with
  | none => exact ⟨none, 0, key zeroOp none 0 zeroOp_ok, ⟨fun j u hj => by simp [pcs] at hj⟩⟩
  | some e =>
    have h1 := h e (e3At_mem he).1
    exact ⟨e.p, e.c, key e.o e.p e.c h1.ok, h1.src⟩
theorem run_predsOf {V : List Value} {v : Value} (h : V[37]? = some v) (w : World) : (Instr.field 46 (.agg V.toArray) 3).run Tryz.prog w = .ok v w :=
  run_fieldOne Tryz.underlying46 rfl Tryz.underlying28 rfl h

/-! ### a map of what has been seen -/
def bkv (x : Nm) : Value × Value := (idv x, .bool true)
theorem boolZero : (Tryz.prog.info? 4).map (fun i => (i.zero, i.size)) = some (some (.bool false), 1) := by kernel_rfl
theorem hasMap.lookB {w : World} {m : Nat} {S : List Nm} (h : hasMap Tryz.prog 31 w m (S.map bkv)) {n : Nm} (hn : n.length = 32) :
    (Instr.lookup 76 (.map (some m)) (idv n) false).run Tryz.prog w = .ok (.bool (decide (n ∈ S))) w := by
  obtain ⟨kl, hkey⟩ := idKeyOf n hn
  rcases h.look idLaw Tryz.underlying76 ((info_two boolZero).1 w) hkey false with ⟨hno, hrun⟩ | ⟨v, hv, hrun⟩
  · rw [hrun, decide_eq_false (fun hm => hno (.bool true) (List.mem_map.2 ⟨n, hm, rfl⟩))]
    rfl
  · obtain ⟨x, hx, hkv⟩ := List.mem_map.1 hv
    have h1 : x = n := idv_inj (Prod.mk.inj hkv).1
    subst h1
    rw [hrun, decide_eq_true hx, ← (Prod.mk.inj hkv).2]
    rfl
def mapLen (w : World) (m : Nat) : Nat := match w.heap[m]? with | some (.map es _) => es.size | _ => 0
theorem hasMap.len {P : Program} {k : TypeId} {w : World} {m : Nat} {L : List (Value × Value)} (h : hasMap P k w m L) : mapLen w m = L.length := by
  obtain ⟨es, clock, h1, _, _, h4⟩ := h
  have := h4.length_eq
  simp only [List.length_map, Array.length_toList] at this
  simp [mapLen, h1, this]
def sliceLen (v : Value) : Nat := match v with | .slice _ n _ => n | _ => 0
theorem seen_len {O : List E3} {S : List Nm} (hd : S.Nodup) (hS : ∀ x ∈ S, hasN (O.map E3.ent) x = true) : S.length ≤ O.length := by
  have := nodup_le hd (r := O.map (·.n)) (fun x hx => (hasN_mem O x).1 (hS x hx))
  simpa using this
end Go.Proofs.YtfoifdhcelcgiaaGreatDoor
