/-
  The guard alive; looks at what is there.
-/
import Derived.Test.YtfoifdhcelcgiaaGreatDoorJe
import Derived.Test.YtfoifdhcelcgiaaGreatDoorJk
import Derived.Test.YtfoifdhcelcgiaaGreatDoorMade
/- Digests that the kernel works out; two operations of the guard 'alive' have unlike names. -/
namespace Go.Proofs.YtfoifdhcelcgiaaGreatDoor
open Go

/-! ### numbers that are worked out before they go on -/
def fU {α : Type} (x : UInt32) (k : UInt32 → α) : α := Nat.rec (motive := fun _ => α) (k 0) (fun m _ => k (UInt32.ofNat (m + 1))) x.toNat
theorem fU_eq {α : Type} (x : UInt32) (k : UInt32 → α) : fU x k = k x := by
  unfold fU
  cases h : x.toNat with
  | zero => rw [show x = 0 from UInt32.toNat_inj.1 h]; rfl
  | succ m =>
    show k (UInt32.ofNat (m + 1)) = k x
    rw [← h, UInt32.ofNat_toNat]
def fB {α : Type} (x : UInt8) (k : UInt8 → α) : α := Nat.rec (motive := fun _ => α) (k 0) (fun m _ => k (UInt8.ofNat (m + 1))) x.toNat
theorem fB_eq {α : Type} (x : UInt8) (k : UInt8 → α) : fB x k = k x := by
  unfold fB
  cases h : x.toNat with
  | zero => rw [show x = 0 from UInt8.toNat_inj.1 h]; rfl
  | succ m =>
    show k (UInt8.ofNat (m + 1)) = k x
    rw [← h, UInt8.ofNat_toNat]
def fL {α : Type} : List UInt8 → (List UInt8 → α) → α
  | [], k => k []
  | a :: r, k => fB a fun a' => fL r fun r' => k (a' :: r')
theorem fL_eq {α : Type} : ∀ (l : List UInt8) (k : List UInt8 → α), fL l k = k l
  | [], k => rfl
  | a :: r, k => by rw [fL, fB_eq, fL_eq r]

def wordF (p : List UInt8) (i : Nat) (l : List UInt32) : UInt32 := if i < 16 then ldAt p i else nxt (l.getD 15 0) (l.getD 6 0) (l.getD 14 0) (l.getD 1 0)
/-- the rounds; the words newest first -/
def goF {α : Type} (p : List UInt8) : List UInt32 → Nat → List UInt32 → St → (St → α) → α
  | [], _, _, s, c => c s
  | k :: ks, i, l, s, c => fU (wordF p i l) fun w => fU (s.t k w) fun t => fU (bAdd t s.u) fun a => fU (bAdd s.d t) fun e => goF p ks (i + 1) (w :: l) ⟨a, s.a, s.b, s.c, e, s.e, s.f, s.g⟩ c
def fS {α : Type} (s : St) (c : St → α) : α := fU s.a fun a => fU s.b fun b => fU s.c fun c' => fU s.d fun d => fU s.e fun e => fU s.f fun f => fU s.g fun g => fU s.h fun h => c ⟨a, b, c', d, e, f, g, h⟩
theorem fS_eq {α : Type} (s : St) (c : St → α) : fS s c = c s := by simp only [fS, fU_eq]
def mixF {α : Type} (p : List UInt8) (s : St) (c : St → α) : α := fL p fun p => goF p KT 0 [] s fun t => fS (s.add t) c
def soakF {α : Type} : Nat → List UInt8 → St → (St → α) → α
  | 0, _, s, c => c s
  | n + 1, l, s, c => mixF (l.take 64) s fun s' => soakF n (l.drop 64) s' c
def shaF (l : List UInt8) : List UInt8 := fL (padB l) fun q => soakF (q.length / 64) q H0 fun s => s.out

theorem sched_get (p : List UInt8) {i : Nat} : ∀ {n : Nat}, i < n → (sched p n)[i]? = (sched p (i + 1))[i]?
  | 0, h => by omega
  | n + 1, h => by
    by_cases e : i = n
    · rw [e]
    · have h1 : i < n := by omega
      rw [sched, List.getElem?_append_left (by rw [length_sched]; exact h1), sched_get p h1]
theorem sched_last (p : List UInt8) (i : Nat) : (sched p (i + 1)).getD i 0 = if i < 16 then ldAt p i else nxtAt (sched p i) i := by
  rw [List.getD_eq_getElem?_getD, sched, List.getElem?_append_right (by rw [length_sched]; omega), length_sched, Nat.sub_self]
  rfl
theorem rev_get (l : List UInt32) (j : Nat) (h : j < l.length) : l.reverse.getD j 0 = l.getD (l.length - 1 - j) 0 := by
  rw [List.getD_eq_getElem?_getD, List.getD_eq_getElem?_getD, List.getElem?_reverse h]
theorem wordF_eq (p : List UInt8) (i : Nat) : wordF p i (sched p i).reverse = (sched p (i + 1)).getD i 0 := by
  rw [sched_last, wordF]
  split
  · rfl
  · unfold nxtAt
    rw [rev_get _ _ (by rw [length_sched]; omega), rev_get _ _ (by rw [length_sched]; omega), rev_get _ _ (by rw [length_sched]; omega), rev_get _ _ (by rw [length_sched]; omega), length_sched]
    congr 2 <;> omega
theorem goF_eq {α : Type} (p : List UInt8) (K : List UInt32) (N : Nat) (hN : N ≤ K.length) (s0 : St) (c : St → α) : ∀ (ks : List UInt32) (i : Nat), K.drop i = ks → i ≤ K.length →
    goF p ks i (sched p i).reverse (s0.rounds K (sched p K.length) i) c = c (s0.rounds K (sched p K.length) K.length)
  | [], i, h, hi => by
    have := List.drop_eq_nil_iff.1 h
    rw [goF, show i = K.length by omega]
  | k :: ks, i, h, hi => by
    have hlt : i < K.length := by
      rcases Nat.lt_or_ge i K.length with h1 | h1
      · exact h1
      · rw [List.drop_eq_nil_of_le h1] at h
        cases h
    have hk : K.getD i 0 = k := by
      rw [List.drop_eq_getElem_cons hlt] at h
      rw [List.getD_eq_getElem?_getD, List.getElem?_eq_getElem hlt, (List.cons.inj h).1]
      rfl
    have hks : K.drop (i + 1) = ks := by
      rw [List.drop_eq_getElem_cons hlt] at h
      exact (List.cons.inj h).2
    have hw : wordF p i (sched p i).reverse = (sched p K.length).getD i 0 := by
      rw [wordF_eq, List.getD_eq_getElem?_getD, List.getD_eq_getElem?_getD, sched_get p hlt]
    have ih := goF_eq p K N hN s0 c ks (i + 1) hks hlt
    rw [goF, fU_eq, fU_eq, fU_eq, fU_eq, hw]
    rw [St.rounds, St.round, hk] at ih
    rw [← ih]
    congr 1
    have : (sched p (i + 1)).reverse = (sched p K.length).getD i 0 :: (sched p i).reverse := by
      rw [← hw, wordF_eq, sched_last, sched, List.reverse_append]
      rfl
    rw [this]
theorem mixF_eq {α : Type} (p : List UInt8) (s : St) (c : St → α) : mixF p s c = c (mixS p s) := by
  have h := goF_eq p KT 64 (by decide) s (fun t => fS (s.add t) c) KT 0 rfl (by decide)
  rw [mixF, fL_eq]
  rw [show (sched p 0).reverse = ([] : List UInt32) from rfl, show s.rounds KT (sched p KT.length) 0 = s from rfl] at h
  rw [h, fS_eq]
  rfl
theorem soak_cons (s : St) (l : List UInt8) : ∀ n, soak s l (n + 1) = soak (mixS (l.take 64) s) (l.drop 64) n
  | 0 => by simp [soak]
  | n + 1 => by
    rw [soak, soak_cons s l n, soak, List.drop_drop, show 64 * (n + 1) = 64 + 64 * n by omega]
theorem soakF_eq {α : Type} : ∀ (n : Nat) (l : List UInt8) (s : St) (c : St → α), soakF n l s c = c (soak s l n)
  | 0, _, _, _ => rfl
  | n + 1, l, s, c => by rw [soakF, mixF_eq, soakF_eq n, soak_cons]
theorem shaF_eq (l : List UInt8) : shaF l = shaB l := by rw [shaF, fL_eq, soakF_eq]; rfl

def opA1 : OpV := ⟨⟨1, [107], [], zeroId⟩, 1, 1, []⟩
def opB1 : OpV := ⟨⟨3, [107], [], zeroId⟩, 2, 2, [nameB opA1]⟩
theorem sumF_eq (a : List UInt8) (l : List (List UInt8)) : shaF (listB (a :: l)) = sumB a l := shaF_eq _
theorem a1_name : nameB opA1 = shaF (listB [[111, 112], opA1.text]) := (shaF_eq _).symm

def nmA1 : List UInt8 := [133, 144, 48, 134, 170, 235, 11, 135, 101, 179, 50, 201, 81, 175, 221, 59, 143, 188, 114, 195, 149, 26, 94, 212, 172, 250, 166, 249, 24, 144, 106, 251]
set_option maxRecDepth 100000 in
theorem a1_sha : shaF (listB [[111, 112], opA1.text]) = nmA1 := by decide +kernel
theorem a1_eq : nameB opA1 = nmA1 := a1_name.trans a1_sha
set_option maxRecDepth 100000 in
theorem b1_sha : shaF (listB [[111, 112], (⟨⟨3, [107], [], zeroId⟩, 2, 2, [nmA1]⟩ : OpV).text]) = [64, 107, 184, 1, 123, 29, 142, 164, 216, 240, 113, 98, 206, 152, 249, 6, 120, 5, 9, 181, 20, 120, 114, 95, 132, 207, 102, 185, 10, 237, 147, 10] := by decide +kernel
theorem ab_ne : nameB opA1 ≠ nameB opB1 := by
  have h : nameB opB1 = [64, 107, 184, 1, 123, 29, 142, 164, 216, 240, 113, 98, 206, 152, 249, 6, 120, 5, 9, 181, 20, 120, 114, 95, 132, 207, 102, 185, 10, 237, 147, 10] := by
    rw [show opB1 = ⟨⟨3, [107], [], zeroId⟩, 2, 2, [nmA1]⟩ by rw [← a1_eq]; rfl, ← b1_sha]
    exact (shaF_eq _).symm
  rw [h, a1_eq]
  decide
end Go.Proofs.YtfoifdhcelcgiaaGreatDoor

/- What the guard 'alive' does, by the law of a set. -/
namespace Go.Proofs.YtfoifdhcelcgiaaGreatDoor
open Go

def dA1 : Dr := ⟨1, [107], [], zeroId⟩
def dB1 : Dr := ⟨3, [107], [], zeroId⟩
theorem heads_nil : headsL ⟨[], []⟩ = [] := by simp [headsL, namesOf, nsort]
theorem al1 : nextD ⟨[], []⟩ 1 dA1 = (opA1, 0) := by
  unfold nextD
  rw [heads_nil, if_neg (by decide), if_neg (by decide)]
  rfl
theorem opA1_good : opA1.Good := ⟨by decide, by decide, by decide, by decide, by decide, by decide, fun i x y h => by simp [opA1] at h⟩
theorem opB1_good : opB1.Good := ⟨by decide, by decide, by decide, by decide, by decide, by decide, fun i x y h h' => by
  have h2 : opB1.preds[i + 1]? = none := List.getElem?_eq_none (show 1 ≤ i + 1 by omega)
  rw [h2] at h'
  cases h'⟩
theorem al2 : takeD ⟨[], []⟩ opA1 = (⟨[(nameB opA1, opA1)], []⟩, [nameB opA1], 0) := by
  unfold takeD
  rw [if_pos opA1_good]
  rfl
theorem heads_one : headsL ⟨[(nameB opA1, opA1)], []⟩ = [nameB opA1] := by
  have h : (namesOf [(nameB opA1, opA1)]).filter (fun n => decide (behindN [(nameB opA1, opA1)] n = 0)) = [nameB opA1] := rfl
  simp only [headsL, h, nsort, List.mergeSort_singleton]
theorem al3 : nextD ⟨[(nameB opA1, opA1)], []⟩ 2 dB1 = (opB1, 0) := by
  unfold nextD
  rw [heads_one, if_neg (by decide), if_neg (by simp)]
  have h : depthOf [(nameB opA1, opA1)] (⟨dB1, 2, 0, [nameB opA1]⟩ : OpV) = 2 := by
    simp [depthOf, deepL, depAt, opAt, opA1, IntKind.wrap, IntKind.bits, IntKind.signed]
    decide
  simp only [h]
  rfl
theorem al4 : takeD ⟨[], []⟩ opB1 = (⟨[], [(nameB opB1, opB1)]⟩, [], 0) := by
  unfold takeD
  rw [if_pos opB1_good]
  rfl
theorem best_ab : bestI [(nameB opA1, opA1)] [(nameB opB1, opB1)] 1 = some 0 := by
  have hw : wholeB [(nameB opA1, opA1)] opB1 = true := by simp [wholeB, hasN, opB1]
  simp [bestI, hw, lessI]
theorem al5 : takeD ⟨[], [(nameB opB1, opB1)]⟩ opA1 = (⟨[(nameB opA1, opA1), (nameB opB1, opB1)], []⟩, [nameB opA1, nameB opB1], 0) := by
  have hb : hasN [(nameB opB1, opB1)] (nameB opA1) = false := by
    simp only [hasN, List.any_cons, List.any_nil, Bool.or_false, decide_eq_false_iff_not]
    exact fun e => ab_ne e.symm
  have hd : opB1.depth = depthOf [(nameB opA1, opA1)] opB1 := by
    simp [depthOf, deepL, depAt, opAt, opA1, opB1, IntKind.wrap, IntKind.bits, IntKind.signed]
    decide
  unfold takeD
  rw [if_pos opA1_good, if_neg (by rw [hb]; decide), if_neg (by decide), if_pos (by decide)]
  have : drain 1 ⟨[] ++ [(nameB opA1, opA1)], [(nameB opB1, opB1)]⟩ [nameB opA1] = (⟨[(nameB opA1, opA1), (nameB opB1, opB1)], []⟩, [nameB opA1, nameB opB1]) := by
    rw [List.nil_append, drain]
    simp only [List.length_cons, List.length_nil, Nat.zero_add, best_ab, List.getElem?_cons_zero, List.eraseIdx_cons_zero, putD, hd, if_true, drain, List.cons_append, List.nil_append]
  rw [show ([(nameB opB1, opB1)] : List NOp).length = 1 from rfl]
  rw [this]
theorem al6 : (headsL ⟨[(nameB opA1, opA1), (nameB opB1, opB1)], []⟩).length = 1 := by
  have h : (namesOf [(nameB opA1, opA1), (nameB opB1, opB1)]).filter (fun n => decide (behindN [(nameB opA1, opA1), (nameB opB1, opB1)] n = 0)) = [nameB opB1] := by
    have e : ([(nameB opA1, opA1), (nameB opB1, opB1)] : List NOp).flatMap (·.2.preds) = [nameB opA1] := rfl
    simp only [namesOf, behindN, e, List.map_cons, List.map_nil]
    have h1 : List.count (nameB opA1) [nameB opA1] = 1 := by simp
    have h2 : List.count (nameB opB1) [nameB opA1] = 0 := by
      rw [List.count_eq_zero]
      intro hm
      exact ab_ne (List.mem_singleton.1 hm).symm
    simp [h1, h2]
  simp only [headsL, h, nsort, List.mergeSort_singleton, List.length_cons, List.length_nil]
end Go.Proofs.YtfoifdhcelcgiaaGreatDoor

/- The guard 'alive' holds. -/
namespace Go.Proofs.YtfoifdhcelcgiaaGreatDoor
open Go Go.RowKit

theorem len_ent' {X : List E3} {l : List NOp} (h : X.map E3.ent = l) : X.length = l.length := by rw [← h, List.length_map]
theorem DagSet.cut {w : World} {b mo mw mt : Nat} {B : Nat → Prop} {O W : List E3} {T : List (Nm × Nat)} (h : DagSet w b mo mw mt B O W T) : DagSet w b mo mw mt (fun i => B i ∧ i < w.heap.size) O W T :=
  ⟨h.box, h.ops, h.wait, h.out, fun e he => ⟨(h.okO e he).ok, (h.okO e he).len, (h.okO e he).src, fun b off e' hne => ⟨(h.okO e he).at_ b off e' hne, (h.okO e he).src.lt (ne_pcs (h.okO e he).ok.ids hne) b off e'⟩⟩,
    fun e he => ⟨(h.okW e he).ok, (h.okW e he).len, (h.okW e he).src, fun b off e' hne => ⟨(h.okW e he).at_ b off e' hne, (h.okW e he).src.lt (ne_pcs (h.okW e he).ok.ids hne) b off e'⟩⟩, h.okT, h.cnt,
    ⟨⟨h.inB.1, h.lt⟩, ⟨h.inB.2.1, h.ops.lt⟩, ⟨h.inB.2.2.1, h.wait.lt⟩, ⟨h.inB.2.2.2, h.out.lt⟩⟩, h.ne, h.rows⟩

section
variable {P : Program} (w : World) {ops : Array Oper} {rest : List Oper} {o : Oper} {a : Act} {Q : Exit → Act → World → Prop}
theorem wpList_build2 (hg : o.guard = none) (t : TypeId) (x0 x1 : Operand) (hop : o.op = .build t #[(0, x0), (1, x1)]) (v0 v1 Z : Value) (h0 : a.eval x0 = v0) (h1 : a.eval x1 = v1)
    (hz : (Instr.build t #[(0, v0), (1, v1)]).run P w = .ok Z w) (h : wpList P ops Q rest (a.put o.dst Z) w) : wpList P ops Q (o :: rest) a w := by
  refine wpList_plain hg fun K' hK' => ?_
  unfold Oper.wp execOp
  simp only [hop, List.map_toArray, List.map_cons, List.map_nil, h0, h1, Sem.run_bind, hz, Result.andThen_ok, Sem.run_pure]
  exact hK' _ _ h
end
theorem build_dA (w : World) : (Instr.build 44 #[(0, .int .i64 1), (1, .string ⟨#[107]⟩)]).run Tryz.prog w = .ok (drv dA1) w := by kernel_rfl
theorem build_dB (w : World) : (Instr.build 44 #[(0, .int .i64 3), (1, .string ⟨#[107]⟩)]).run Tryz.prog w = .ok (drv dB1) w := by kernel_rfl
theorem dA1_ok : dA1.Ok := ⟨by decide, by decide, rfl, by decide, by decide⟩
theorem dB1_ok : dB1.Ok := ⟨by decide, by decide, rfl, by decide, by decide⟩
theorem opA1_ok : opA1.Ok := ⟨dA1_ok, by decide, by decide, by decide, by decide, by simp [opA1], by decide⟩
theorem opB1_ok : opB1.Ok := ⟨dB1_ok, by decide, by decide, by decide, by decide, fun x hx => by
  rw [List.mem_singleton.1 (show x ∈ [nameB opA1] from hx)]
  rfl, by decide⟩

end Go.Proofs.YtfoifdhcelcgiaaGreatDoor

/- What the laws of sets lean on: a look at what is there; ints that came in. -/
namespace Go.Proofs.YtfoifdhcelcgiaaGreatDoor
open Go Go.RowKit

def I64 (n : Int) : Prop := -9223372036854775808 ≤ n ∧ n ≤ 9223372036854775807
def IntsAt (w : World) (p : Option Addr) (zs : List Int) : Prop :=
  ∀ i, i < zs.length → ∃ b off, p = some ⟨b, off, none⟩ ∧ b < w.heap.size ∧ w.cell? ⟨b, off + i, none⟩ = some (.int .i64 (zs.getD i 0)) ∧ I64 (zs.getD i 0)

theorem exec_neId {o : Oper} {a : Act} (u : TypeId) (x y : Operand) (ho : o.op = .binOp .neq 31 x y u) (l r : List UInt8) (hx : a.eval x = idv l) (hy : a.eval y = idv r) (h1 : l.length = 32) (h2 : r.length = 32) (w : World) :
    (execOp a.eval o).run Tryz.prog w = .ok (.value (.bool (!decide (l = r)))) w := by
  unfold execOp
  simp only [ho, hx, hy, Sem.run_bind, run_eqGuard_agg w _ _ _ _ _ _ guardId, binOp, run_eq_id w l r h1 h2, Sem.run_pure, Result.andThen_ok]

theorem exec_neSame {o : Oper} {a : Act} (u : TypeId) (x y : Operand) (ho : o.op = .binOp .neq 31 x y u) (l : List UInt8) (hx : a.eval x = idv l) (hy : a.eval y = idv l) (h1 : l.length = 32) (w : World) :
    (execOp a.eval o).run Tryz.prog w = .ok (.value (.bool false)) w := by
  have h := exec_neId u x y ho l l hx hy h1 h1 w
  rw [decide_eq_true rfl] at h
  exact h

/-- one that is there, with all that is known of it -/
structure There (O : List E3) (x : Nm) (o : OpV) : Prop where
  at_ : opAt (O.map E3.ent) x = some o
  ok : o.Ok
  name : nameB o = x
  whole : ∀ y ∈ o.preds, hasN (O.map E3.ent) y = true
  depth : o.depth = depthOf (O.map E3.ent) o
theorem there_of {w : World} {b mo mw mt : Nat} {B : Nat → Prop} {O W : List E3} {T : List (Nm × Nat)} (h : DagSet w b mo mw mt B O W T) (hI : DInv ⟨O.map E3.ent, W.map E3.ent⟩) {x : Nm} {o : OpV} (ho : opAt (O.map E3.ent) x = some o) : There O x o := by
  have hm := opAt_some ho
  obtain ⟨e, he, heq⟩ := List.mem_map.1 hm
  have e1 : e.n = x := (Prod.mk.inj heq).1
  have e2 : e.o = o := (Prod.mk.inj heq).2
  have hn := hI.named (x, o) (List.mem_append.2 (.inl hm))
  have hc := hI.closed (x, o) hm
  exact ⟨ho, e2 ▸ (h.okO e he).ok, hn.symm, by simpa [wholeB] using hc.1, hc.2⟩
theorem get_hit {w : World} {b mo mw mt : Nat} {B : Nat → Prop} {O W : List E3} {T : List (Nm × Nat)} (h : DagSet w b mo mw mt B O W T) (hI : DInv ⟨O.map E3.ent, W.map E3.ent⟩) {x : Nm} (hx : x.length = 32) (hh : hasN (O.map E3.ent) x = true) :
    Calls Tryz.prog 38 #[.pointer (some ⟨b, 0, none⟩), idv x] w fun e w' => ∃ o p c, There O x o ∧ e = .returned (.tuple #[.agg (o.cs p c).toArray, .int .i64 0]) ∧ Owns w' w.heap.size 31 32 (.slice p o.preds.length c) o.preds.length (pcs o.preds) ∧ Below w.heap.size w w' := by
  refine (get_any b mo mw mt B O W T x hx w h).mono ?_
  rintro e w' ⟨hb, ⟨o, v, h1, rfl, p, c, rfl, ho⟩ | ⟨h1, _⟩⟩
  · exact ⟨o, p, c, there_of h hI h1, rfl, ho, hb⟩
  · rw [hasN_ent] at hh
    rw [← e3At_ent] at h1
    cases he : e3At O x with
    | none => rw [he] at hh; cases hh
    | some e => rw [he] at h1; cases h1
theorem deepL_snoc (l : List NOp) (ps : List Nm) (y : Nm) : deepL l (ps ++ [y]) = max (deepL l ps) (depAt l y) := by simp [deepL]
theorem There.depAt {O : List E3} {x : Nm} {o : OpV} (h : There O x o) : depAt (O.map E3.ent) x = o.depth := by simp [Proofs.YtfoifdhcelcgiaaGreatDoor.depAt, h.at_]
end Go.Proofs.YtfoifdhcelcgiaaGreatDoor
