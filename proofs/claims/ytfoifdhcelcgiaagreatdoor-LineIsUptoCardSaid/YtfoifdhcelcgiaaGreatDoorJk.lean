/-
  Makes, and what holds in each round of Made.
-/
import Derived.Test.YtfoifdhcelcgiaaGreatDoorRfT
/- What a list of makes is, where it lies; a set by the document may lean on more rows; what Next answers is within bounds. -/
namespace Go.Proofs.YtfoifdhcelcgiaaGreatDoor
open Go Go.RowKit

structure MkV where
  kind : Int
  author : Int
  d : Dr
  at_ : Int
  other : Int
  deep : Int
  o : OpV
  p : Option Addr
  c : Nat
def i64R (n : Int) : Prop := -9223372036854775808 ≤ n ∧ n ≤ 9223372036854775807
structure MkV.Ok (m : MkV) : Prop where
  kind : i64R m.kind
  author : i64R m.author
  d : m.d.Ok
  at_ : i64R m.at_
  other : i64R m.other
  deep : i64R m.deep
  o : m.o.Ok
def MkV.cs (m : MkV) : List Value := .int .i64 m.kind :: .int .i64 m.author :: (m.d.cs ++ (.int .i64 m.at_ :: .int .i64 m.other :: .int .i64 m.deep :: m.o.cs m.p m.c))
def mcs (M : List MkV) : List Value := M.flatMap MkV.cs
theorem MkV.cs_length {m : MkV} (h : m.Ok) : m.cs.length = 78 := by
  simp [MkV.cs, Dr.cs_length h.d, OpV.cs_length h.o]
theorem MkV.cs_one (m : MkV) : ∀ u ∈ m.cs, u.oneCell' = true := fun u hu => by
  simp only [MkV.cs, List.mem_cons, List.mem_append] at hu
  rcases hu with rfl | rfl | hu | rfl | rfl | rfl | hu
  · rfl
  · rfl
  · exact Dr.cs_one _ u hu
  · rfl
  · rfl
  · rfl
  · exact OpV.cs_one _ _ _ u hu

theorem RefSet.moreB {w : World} {b : Nat} {vo vw vn vm : Value} {F B B' : Nat → Prop} {O W : List E3} (h : RefSet w b vo vw vn vm F B O W) (h1 : ∀ i, B i → B' i) (h2 : ∀ i, B' i → i < w.heap.size ∧ ¬ F i) : RefSet w b vo vw vn vm F B' O W :=
  ⟨h.box, h.ops, h.wait, h.names, h.waits, fun e he => (h.okO e he).mono h1, fun e he => (h.okW e he).mono h1, h.fb, h.fo, h.fw, h.fn, h.fm, fun i hi hb => (h2 i hb).2 hi, h.flt, fun i hi => (h2 i hi).1, h.ow, h.nm⟩

theorem wrap_range (n : Int) : i64R (IntKind.i64.wrap n) := by
  unfold i64R IntKind.wrap
  simp [IntKind.bits, IntKind.signed]
  split <;> omega
theorem nextD_ok {s : DS} {a : Int} (ha : i64R a) {d : Dr} (hd : d.Ok) (h32 : ∀ x ∈ namesOf s.ops, x.length = 32) : (nextD s a d).1.Ok := by
  unfold nextD
  split
  · exact zeroOp_ok
  · split
    · exact zeroOp_ok
    · rename_i h1
      exact ⟨hd, ha.1, ha.2, (wrap_range _).1, (wrap_range _).2, fun x hx => h32 x (headsL_len s x hx), by simp only; omega⟩

/-! ### how many there are -/
theorem putD_len (s : DS) (out : List Nm) (e : NOp) : (putD s out e).1.ops.length + (putD s out e).1.wait.length ≤ s.ops.length + s.wait.length + 1 := by
  unfold putD
  split <;> simp <;> omega
theorem drain_len : ∀ (f : Nat) (s : DS) (out : List Nm), (drain f s out).1.ops.length + (drain f s out).1.wait.length ≤ s.ops.length + s.wait.length
  | 0, _, _ => Nat.le_refl _
  | f + 1, s, out => by
    rw [drain]
    cases hb : bestI s.ops s.wait s.wait.length with
    | none => exact Nat.le_refl _
    | some i =>
      obtain ⟨h1, e, he, hw⟩ := bestI_some hb
      simp only [he]
      have h2 := drain_len f (putD ⟨s.ops, s.wait.eraseIdx i⟩ out e).1 (putD ⟨s.ops, s.wait.eraseIdx i⟩ out e).2
      have h3 := putD_len ⟨s.ops, s.wait.eraseIdx i⟩ out e
      simp only [List.length_eraseIdx_of_lt h1] at h3
      omega
theorem takeD_len (s : DS) (o : OpV) : (takeD s o).1.ops.length + (takeD s o).1.wait.length ≤ s.ops.length + s.wait.length + 1 := by
  unfold takeD
  split
  · split
    · simp only; omega
    · split
      · simp only [List.length_append, List.length_cons, List.length_nil]; omega
      · split
        · have := drain_len s.wait.length ⟨s.ops ++ [(nameB o, o)], s.wait⟩ [nameB o]
          simp only [List.length_append, List.length_cons, List.length_nil] at this ⊢
          omega
        · simp only; omega
  · simp only; omega
theorem len_ent {X : List E3} {l : List NOp} (h : X.map E3.ent = l) : X.length = l.length := by rw [← h, List.length_map]
end Go.Proofs.YtfoifdhcelcgiaaGreatDoor

/- What holds in each round of Made: the set so far, the operations so far, and the operation that is being made. -/
namespace Go.Proofs.YtfoifdhcelcgiaaGreatDoor
open Go Go.RowKit

/-- the operation in its box, and where its predecessors lie -/
structure BoxOp (w : World) (k : Nat) (B : Nat → Prop) (n0 : Nat) (x : OpV) (xp : Option Addr) (xc : Nat) : Prop where
  ok : x.Ok
  row : w.heap[k]? = some (.cells (x.cs xp xc).toArray 46 (0, 0))
  src : Src w xp (pcs x.preds)
  at_ : ∀ i off, xp = some ⟨i, off, none⟩ → x.preds ≠ [] → B i ∨ n0 ≤ i
theorem ne_pcs {l : List (List UInt8)} (h : ∀ x ∈ l, x.length = 32) (hne : l ≠ []) : pcs l ≠ [] := fun e => by
  have h1 := pcs_length h
  rw [e] at h1
  exact hne (List.eq_nil_of_length_eq_zero (by simp only [List.length_nil] at h1; omega))
section
variable {w w' : World} {k : Nat} {B : Nat → Prop} {n0 : Nat} {x : OpV} {xp : Option Addr} {xc : Nat}
theorem BoxOp.lt (h : BoxOp w k B n0 x xp xc) : k < w.heap.size := (Array.getElem?_eq_some_iff.1 h.row).1
theorem BoxOp.cells (h : BoxOp w k B n0 x xp xc) : cellsAt w k 0 (x.cs xp xc) := fun j u hj => by
  rw [cell_of_row _ _ _ _ _ _ h.row, Nat.zero_add]
  simpa using hj
theorem BoxOp.under (h : BoxOp w k B n0 x xp xc) (hb : Below w.heap.size w w') : BoxOp w' k B n0 x xp xc :=
  ⟨h.ok, (hb.block _ h.lt).trans h.row, h.src.below hb (Nat.le_refl _), h.at_⟩
theorem BoxOp.below {N : Nat} (h : BoxOp w k B n0 x xp xc) (hb : Below N w w') (hN : w.heap.size ≤ N) : BoxOp w' k B n0 x xp xc :=
  ⟨h.ok, (hb.block _ (Nat.lt_of_lt_of_le h.lt hN)).trans h.row, h.src.below hb hN, h.at_⟩
end

structure MadeSt (w wr : World) (b n : Nat) (v vo vw vn vm : Value) (F B : Nat → Prop) (O W L : List E3) : Prop where
  set : RefSet wr b vo vw vn vm F B O W
  inv : DInv ⟨O.map E3.ent, W.map E3.ent⟩
  len : O.length + W.length ≤ n
  llen : L.length ≤ n
  own : Owns wr w.heap.size 46 38 v L.length (ocs L)
  okL : ∀ e ∈ L, e.Ok wr B
  vF : ∀ g, v.ownBlock = some g → ¬ F g ∧ ¬ B g
  fge : ∀ i, F i → w.heap.size ≤ i
  bin : ∀ i, i < w.heap.size → B i
  below : Below w.heap.size w wr

section
variable {w wr wx w' : World} {b n : Nat} {v vo vw vn vm vo' vw' vn' vm' v' : Value} {F B F' B' : Nat → Prop} {O W L O' W' : List E3}
theorem MadeSt.under (h : MadeSt w wr b n v vo vw vn vm F B O W L) (hb : Below wr.heap.size wr wx) : MadeSt w wx b n v vo vw vn vm F B O W L :=
  ⟨h.set.under hb, h.inv, h.len, h.llen, h.own.under hb, fun e he => (h.okL e he).keeps hb.size (fun i hi _ => hb.block i hi), h.vF, h.fge, h.bin, h.below.trans (hb.mono h.below.size)⟩
theorem MadeSt.le {m : Nat} (h : MadeSt w wr b n v vo vw vn vm F B O W L) (hm : n ≤ m) : MadeSt w wr b m v vo vw vn vm F B O W L :=
  ⟨h.set, h.inv, Nat.le_trans h.len hm, Nat.le_trans h.llen hm, h.own, h.okL, h.vF, h.fge, h.bin, h.below⟩
theorem MadeSt.more {n0 : Nat} (h : MadeSt w wx b n v vo vw vn vm F B O W L) (h1 : ∀ i, B i → B' i) (h2 : ∀ i, B' i → B i ∨ (n0 ≤ i ∧ i < wx.heap.size)) (hF : ∀ i, F i → i < n0) (hv : ∀ g, v.ownBlock = some g → g < n0) : MadeSt w wx b n v vo vw vn vm F B' O W L :=
  ⟨h.set.moreB h1 (fun i hi => (h2 i hi).elim (fun hb => ⟨h.set.blt i hb, fun hf => h.set.apart i hf hb⟩) (fun hn => ⟨hn.2, fun hf => by have := hF i hf; omega⟩)), h.inv, h.len, h.llen, h.own,
    fun e he => (h.okL e he).mono h1, fun g hg => ⟨(h.vF g hg).1, fun hb => (h2 g hb).elim (h.vF g hg).2 (fun hn => by have := hv g hg; omega)⟩, h.fge, fun i hi => h1 i (h.bin i hi), h.below⟩
theorem MadeSt.took (h : MadeSt w wx b n v vo vw vn vm F B O W L) (hset : RefSet w' b vo' vw' vn' vm' F' B O' W') (hF : ∀ i, F' i → F i ∨ wx.heap.size ≤ i) (hk : Keeps F wx w') (hinv : DInv ⟨O'.map E3.ent, W'.map E3.ent⟩)
    (hlen : O'.length + W'.length ≤ n + 1) : MadeSt w w' b (n + 1) v vo' vw' vn' vm' F' B O' W' L :=
  ⟨hset, hinv, hlen, Nat.le_succ_of_le h.llen, h.own.keep (fun g hg => hk.block g (h.own.lt hg).2 (h.vF g hg).1),
    fun e he => (h.okL e he).keeps hk.size (fun i hi hB => hk.block i hi (fun hf => h.set.apart i hf hB)),
    fun g hg => ⟨fun hf => (hF g hf).elim (h.vF g hg).1 (fun h1 => by have := (h.own.lt hg).2; omega), (h.vF g hg).2⟩,
    fun i hi => (hF i hi).elim (h.fge i) (fun h1 => Nat.le_trans h.below.size h1), h.bin,
    h.below.trans (hk.toBelow h.below.size (fun i hi hf => by have := h.fge i hf; omega))⟩
theorem MadeSt.push {e : E3} (h : MadeSt w wx b n v vo vw vn vm F B O W L) (hl : L.length + 1 ≤ n) (he : e.Ok wx B) (ho : Owns w' w.heap.size 46 38 v' (L.length + 1) (ocs L ++ e.cs))
    (hg : (wx.alloc (.cells e.cs.toArray 46)).grownBy w' v.ownBlock) (hs : v'.ownBlock = v.ownBlock ∨ v'.ownBlock = some (wx.alloc (.cells e.cs.toArray 46)).heap.size) : MadeSt w w' b n v' vo vw vn vm F B O W (L ++ [e]) := by
  have hz := hg.size
  rw [World.size_alloc] at hz hs
  have hk : ∀ j, j < wx.heap.size → v.ownBlock ≠ some j → w'.heap[j]? = wx.heap[j]? := fun j hj hne => (hg.block j (by rw [World.size_alloc]; omega) (fun e => hne e.symm)).trans ((MapKept.heap_alloc _ _).2 _ hj)
  have hB : ∀ i, i < wx.heap.size → B i → w'.heap[i]? = wx.heap[i]? := fun i hi hb => hk i hi (fun e => (h.vF i e).2 hb)
  refine ⟨h.set.keeps (by omega) (fun i hi hFB => hk i hi (fun e => hFB.elim (h.vF i e).1 (h.vF i e).2)), h.inv, h.len, by simpa using hl, ?_, ?_, ?_, h.fge, h.bin, ?_⟩
  · have e1 : ocs (L ++ [e]) = ocs L ++ e.cs := by simp [ocs]
    rw [e1, List.length_append]
    exact ho
  · intro x hx
    rcases List.mem_append.1 hx with hx | hx
    · exact (h.okL x hx).keeps (by omega) hB
    · rw [List.mem_singleton.1 hx]
      exact he.keeps (by omega) hB
  · intro g hg'
    rcases hs with h1 | h1
    · exact h.vF g (h1 ▸ hg')
    · rw [h1] at hg'
      have h2 := Option.some.inj hg'
      exact ⟨fun hf => by have := h.set.flt g hf; omega, fun hb => by have := h.set.blt g hb; omega⟩
  · have hz0 := h.below.size
    exact h.below.trans ⟨hg.os, hg.tape, hg.output, by omega, fun j hj => hk j (by omega) (fun e => by have := (h.own.lt e).1; omega)⟩
end

/-- what the list answers -/
structure MadeOut (w w' : World) (v : Value) (L : List E3) (B : Nat → Prop) : Prop where
  len : L.length ≤ 30
  own : Owns w' w.heap.size 46 38 v L.length (ocs L)
  okL : ∀ e ∈ L, e.Ok w' B
  vB : ∀ g, v.ownBlock = some g → ¬ B g
  blt : ∀ i, B i → i < w'.heap.size
  below : Below w.heap.size w w'
theorem MadeSt.out {w wr : World} {b n : Nat} {v vo vw vn vm : Value} {F B : Nat → Prop} {O W L : List E3} (h : MadeSt w wr b n v vo vw vn vm F B O W L) (hn : n ≤ 30) : MadeOut w wr v L B :=
  ⟨Nat.le_trans h.llen hn, h.own, h.okL, fun g hg => (h.vF g hg).2, h.set.blt, h.below⟩

/-! ### the makes where they lie -/
theorem mcs_cut {M : List MkV} (h : ∀ m ∈ M, m.cs.length = 78) {n : Nat} {m : MkV} (hm : M[n]? = some m) {j : Nat} {u : Value} (hu : m.cs[j]? = some u) : (mcs M)[78 * n + j]? = some u := by
  induction M generalizing n with
  | nil => simp at hm
  | cons a r ih =>
    have h1 := h a (by simp)
    cases n with
    | zero =>
      simp at hm
      subst hm
      simp only [mcs, List.flatMap_cons, Nat.mul_zero, Nat.zero_add]
      rw [List.getElem?_append_left (List.getElem?_eq_some_iff.1 hu).1]
      exact hu
    | succ n =>
      simp at hm
      have h2 := ih (fun e he => h e (by simp [he])) hm
      simp only [mcs, List.flatMap_cons] at h2 ⊢
      rw [List.getElem?_append_right (by omega), h1, show 78 * (n + 1) + j - 78 = 78 * n + j by omega]
      exact h2
theorem make_at {w : World} {p : Option Addr} {M : List MkV} (hs : SrcAt w p (mcs M)) (h : ∀ m ∈ M, m.cs.length = 78) {n : Nat} (hn : n < M.length) :
    ∃ m g off, M[n]? = some m ∧ m ∈ M ∧ p = some ⟨g, off, none⟩ ∧ cellsAt w g (off + n * 78) m.cs := by
  have hm : M[n]? = some M[n] := by simp [hn]
  have h78 := h _ (List.getElem_mem hn)
  obtain ⟨u0, hu0⟩ : ∃ u, M[n].cs[0]? = some u := ⟨_, List.getElem?_eq_getElem (show 0 < M[n].cs.length by omega)⟩
  obtain ⟨g, off, hp, _⟩ := hs _ _ (mcs_cut h hm hu0)
  refine ⟨M[n], g, off, hm, List.getElem_mem hn, hp, fun j u hj => ?_⟩
  obtain ⟨g', off', hp', hc⟩ := hs _ u (mcs_cut h hm hj)
  have := Option.some.inj (hp.symm.trans hp')
  simp only [Addr.mk.injEq] at this
  obtain ⟨rfl, rfl, _⟩ := this
  rw [Nat.add_assoc, Nat.mul_comm]
  exact hc
section
variable {w : World} {k : Nat} {m : MkV}
theorem MkV.parts (hok : m.Ok) (h : cellsAt w k 0 m.cs) : w.cell? ⟨k, 0, none⟩ = some (.int .i64 m.kind) ∧ w.cell? ⟨k, 1, none⟩ = some (.int .i64 m.author) ∧ cellsAt w k 2 m.d.cs ∧ w.cell? ⟨k, 37, none⟩ = some (.int .i64 m.at_) ∧
    w.cell? ⟨k, 38, none⟩ = some (.int .i64 m.other) ∧ w.cell? ⟨k, 39, none⟩ = some (.int .i64 m.deep) ∧ cellsAt w k 40 (m.o.cs m.p m.c) := by
  have hd := Dr.cs_length hok.d
  have g : ∀ j u, (m.d.cs ++ (.int .i64 m.at_ :: .int .i64 m.other :: .int .i64 m.deep :: m.o.cs m.p m.c))[j]? = some u → w.cell? ⟨k, 2 + j, none⟩ = some u := fun j u hj => by
    have := h (2 + j) u (by unfold MkV.cs; rw [Nat.add_comm 2 j]; exact hj)
    simpa using this
  have g2 : ∀ j u, (Value.int .i64 m.at_ :: .int .i64 m.other :: .int .i64 m.deep :: m.o.cs m.p m.c)[j]? = some u → w.cell? ⟨k, 37 + j, none⟩ = some u := fun j u hj => by
    have := g (35 + j) u (by rw [List.getElem?_append_right (by omega), hd, show 35 + j - 35 = j by omega]; exact hj)
    rw [show 37 + j = 2 + (35 + j) by omega]
    exact this
  refine ⟨by simpa using h 0 _ rfl, by simpa using h 1 _ rfl, fun j u hj => g j u ?_, g2 0 _ rfl, g2 1 _ rfl, g2 2 _ rfl, fun j u hj => ?_⟩
  · rw [List.getElem?_append_left (List.getElem?_eq_some_iff.1 hj).1]
    exact hj
  · have := g2 (3 + j) u (by rw [Nat.add_comm 3 j]; exact hj)
    rw [show 40 + j = 37 + (3 + j) by omega]
    exact this
end
def zeroMk : MkV := ⟨0, 0, zeroOp.d, 0, 0, 0, zeroOp, none, 0⟩
theorem mkZero : (Tryz.prog.info? 99).map (fun i => (i.zero, i.size)) = some (some (.agg zeroMk.cs.toArray), 78) := by kernel_rfl
theorem build_set (w : World) : (Instr.build 37 #[]).run Tryz.prog w = .ok (.agg #[.slice none 0 0, .slice none 0 0, .slice none 0 0, .slice none 0 0]) w := by kernel_rfl
theorem exec_len {P : Program} {o : Oper} {a : Act} (x : Operand) (t e : TypeId) (hop : o.op = .call { callee := .builtin .len, args := #[x], argTypes := #[t] }) (ht : P.underlying t = some (.slice e)) (p : Option Addr) (n c : Nat) (hx : a.eval x = .slice p n c) (w : World) :
    (execOp a.eval o).run P w = .ok (.value (.int .i64 n)) w := by
  unfold execOp
  simp [hop, resolve, invoke, builtin, hx, Builtin.len_, run_underlying ht, goInt, Result.andThen]
theorem u64_len (n : Nat) (h : n ≤ 1000000000) : IntKind.u64.wrap (n : Int) = n := by
  unfold IntKind.wrap
  simp [IntKind.bits, IntKind.signed]
  omega
theorem i64_nat (n : Nat) (h : n ≤ 1000000000) : IntKind.i64.wrap (n : Int) = n := by
  unfold IntKind.wrap
  simp [IntKind.bits, IntKind.signed]
  omega
theorem pick_lt (x : Int) (n : Nat) (hn : 0 < n) : ∃ i : Nat, (IntKind.u64.wrap x).tmod (n : Int) = (i : Int) ∧ i < n := by
  have h0 : 0 ≤ IntKind.u64.wrap x := by
    unfold IntKind.wrap
    simp [IntKind.bits, IntKind.signed]
    omega
  obtain ⟨k, hk⟩ := Int.eq_ofNat_of_zero_le h0
  rw [hk]
  exact ⟨k % n, by rw [Int.ofNat_tmod], Nat.mod_lt _ hn⟩
theorem OpV.cs_preds {o : OpV} (ho : o.Ok) (p p' : Option Addr) (c c' : Nat) (X : List (List UInt8)) : (o.cs p c).toArray.setIfInBounds 37 (.slice p' X.length c') = ((⟨o.d, o.author, o.depth, X⟩ : OpV).cs p' c').toArray := by
  apply Array.ext'
  simp only [Array.toList_setIfInBounds]
  unfold OpV.cs
  rw [List.set_append_right _ _ (by rw [Dr.cs_length ho.d]; omega), Dr.cs_length ho.d]
  rfl
theorem risingL_len (l : List Nm) : (risingL l).length = l.length := by rw [risingL_eq]; exact (nsort_perm l).length_eq
theorem risingL_32 {l : List Nm} (h : ∀ x ∈ l, x.length = 32) : ∀ x ∈ risingL l, x.length = 32 := fun x hx => by
  rw [risingL_eq] at hx
  exact h x (nsort_mem.1 hx)
theorem wrap64_R (n : Int) : i64R (wrap64 n) := by
  unfold i64R wrap64
  omega
theorem run_buildTwo {P : Program} {w : World} {t e : TypeId} {n : Nat} {Z : Value} (ht : P.underlying t = some (.slice e)) (hi : (P.info? e).map (·.size) = some n) (hn : 0 < n) (hn2 : n ≤ 1000) (hz : ∀ w, (zeroValue e).run P w = .ok Z w) {c1 c2 : List Value} (h1 : c1.length = n) (h2 : c2.length = n) :
    (Instr.buildSlice t 2 #[(0, .agg c1.toArray), (1, .agg c2.toArray)]).run P w = .ok (.slice (some ⟨w.heap.size, 0, none⟩) 2 2) (w.alloc (.cells (c1 ++ c2).toArray e)) := by
  have hf : Instr.fill (fun i => some (i * n, n)) ((Array.range (2 * n)).map (Z.cells[· % Z.cells.size]!)) [(0, .agg c1.toArray), (1, .agg c2.toArray)] = some (c1 ++ c2).toArray := by
    rw [fill_step (off := 0) (size := n) (by simp) (by simpa [Value.cells] using h1) (by simp; omega)]
    rw [fill_step (off := n) (size := n) (by simp) (by simpa [Value.cells] using h2) (by simp [Value.cells, h1]; omega)]
    simp only [Instr.fill]
    congr 1
    apply Array.ext'
    simp only [Value.cells, Nat.zero_add, List.take_zero, List.nil_append]
    have e1 : ∀ l : List Value, (c1 ++ l).take n = c1 := fun l => List.take_left' h1
    rw [e1, List.drop_of_length_le (by simp [h1]; omega), List.append_nil]
  unfold Instr.buildSlice
  simp only [Sem.run_bind, run_underlying ht, Result.andThen_ok, sizeOf_of hi]
  rw [if_neg (by omega), if_neg (by omega)]
  simp only [Sem.run_bind, hz, Result.andThen_ok, Sem.run_pure, hf]
  rfl
theorem wp_buildTwo {P : Program} {w : World} {o : Oper} {a : Act} {Q : Exit → Act → World → Prop} {K : Act → World → Prop} (t : TypeId) (x y : Operand) (hop : o.op = .buildSlice t 2 #[(0, x), (1, y)])
    (e : TypeId) (n : Nat) (Z : Value) (ht : P.underlying t = some (.slice e)) (hi : (P.info? e).map (·.size) = some n) (hn : 0 < n) (hn2 : n ≤ 1000) (hz : ∀ w, (zeroValue e).run P w = .ok Z w) (c1 c2 : List Value) (hx : a.eval x = .agg c1.toArray) (hy : a.eval y = .agg c2.toArray) (h1 : c1.length = n) (h2 : c2.length = n)
    (h : K (a.put o.dst (.slice (some ⟨w.heap.size, 0, none⟩) 2 2)) (w.alloc (.cells (c1 ++ c2).toArray e))) : o.wp P a w K Q := by
  have hr := run_buildTwo (w := w) ht hi hn hn2 hz h1 h2
  unfold Oper.wp execOp
  simp only [hop, List.map_toArray, List.map_cons, List.map_nil, hx, hy, Sem.run_bind, hr, Result.andThen_ok, Sem.run_pure]
  exact h
end Go.Proofs.YtfoifdhcelcgiaaGreatDoor
