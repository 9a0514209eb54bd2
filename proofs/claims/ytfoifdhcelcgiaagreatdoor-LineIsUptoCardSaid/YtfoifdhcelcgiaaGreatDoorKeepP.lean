/-
  A set and the document's set, side by side, where the document's was laid before the operations; a row of names whose bytes are turned.
-/
import Derived.Test.YtfoifdhcelcgiaaGreatDoorJn
namespace Go.Proofs.YtfoifdhcelcgiaaGreatDoor
open Go Go.RowKit

def fourB (b2 mo mw mt : Nat) : Nat → Prop := fun i => i = b2 ∨ threeB mo mw mt i
structure KeepSt (w4 wr : World) (b mo mw mt b2 N1 N2 : Nat) (BL BD F : Nat → Prop) (O W O2 W2 : List E3) (T : List (Nm × Nat)) (vo vw vn vm : Value) : Prop where
  dag : DagSet wr b mo mw mt BD O W T
  ref : RefSet wr b2 vo vw vn vm F (fun i => BL i ∧ ¬ fourB b2 mo mw mt i) O2 W2
  inv : DInv ⟨O.map E3.ent, W.map E3.ent⟩
  e1 : O2.map E3.ent = O.map E3.ent
  e2 : W2.map E3.ent = W.map E3.ent
  bd : ∀ i, BD i → ((N1 ≤ i ∧ i < N2) ∨ w4.heap.size ≤ i) ∧ i < wr.heap.size ∧ ¬ F i
  fn : ∀ i, F i → i = b2 ∨ w4.heap.size ≤ i
  bl : ∀ i, BL i → i < w4.heap.size
  keep : Keeps (fourB b2 mo mw mt) w4 wr
section
variable {w4 wr wx w5 w6 : World} {b mo mw mt b2 N1 N2 : Nat} {BL BD F BD' F' : Nat → Prop} {O W O2 W2 O' W' O2' W2' : List E3} {T T' : List (Nm × Nat)} {vo vw vn vm vo' vw' vn' vm' : Value}
theorem KeepSt.under (h : KeepSt w4 wr b mo mw mt b2 N1 N2 BL BD F O W O2 W2 T vo vw vn vm) (hb : Below wr.heap.size wr wx) : KeepSt w4 wx b mo mw mt b2 N1 N2 BL BD F O W O2 W2 T vo vw vn vm :=
  ⟨h.dag.under hb, h.ref.under hb, h.inv, h.e1, h.e2, fun i hi => ⟨(h.bd i hi).1, Nat.lt_of_lt_of_le (h.bd i hi).2.1 hb.size, (h.bd i hi).2.2⟩, h.fn, h.bl, h.keep.trans (Keeps.of_below (S := fourB b2 mo mw mt) hb)⟩
theorem KeepSt.three (h : KeepSt w4 wr b mo mw mt b2 N1 N2 BL BD F O W O2 W2 T vo vw vn vm) : ∀ i, threeB mo mw mt i → BD i := fun i hi => by
  rcases hi with rfl | rfl | rfl
  · exact h.dag.inB.2.1
  · exact h.dag.inB.2.2.1
  · exact h.dag.inB.2.2.2
theorem KeepSt.row {r : Nat} (h : KeepSt w4 wr b mo mw mt b2 N1 N2 BL BD F O W O2 W2 T vo vw vn vm) (hk : Keeps (fun k => k = r) wr wx) (hr : w4.heap.size ≤ r) (hB : ¬ BD r) (hF : ¬ F r) : KeepSt w4 wx b mo mw mt b2 N1 N2 BL BD F O W O2 W2 T vo vw vn vm :=
  ⟨h.dag.keeps hk.size (fun i hi hb => hk.block i hi (fun e => hB (e ▸ hb))), h.ref.keeps hk.size (fun i hi hFB => hk.block i hi (fun e => hFB.elim (fun hf => hF (e ▸ hf)) (fun hb => by have := h.bl i hb.1; omega))), h.inv, h.e1, h.e2,
    fun i hi => ⟨(h.bd i hi).1, Nat.lt_of_lt_of_le (h.bd i hi).2.1 hk.size, (h.bd i hi).2.2⟩, h.fn, h.bl, h.keep.trans' hk (fun i hi => .inr (by omega))⟩
theorem KeepSt.refAt (h : KeepSt w4 wr b mo mw mt b2 N1 N2 BL BD F O W O2 W2 T vo vw vn vm) (hk : Keeps (threeB mo mw mt) wr w5) : RefSet w5 b2 vo vw vn vm F (fun i => BL i ∧ ¬ fourB b2 mo mw mt i) O2 W2 :=
  h.ref.keeps hk.size (fun i hi hFB => hk.block i hi (fun h3 => hFB.elim (h.bd i (h.three i h3)).2.2 (fun h5 => h5.2 (.inr h3))))
theorem KeepSt.take (h : KeepSt w4 wr b mo mw mt b2 N1 N2 BL BD F O W O2 W2 T vo vw vn vm) (hd : DagSet w5 b mo mw mt BD' O' W' T') (hB : ∀ i, BD' i → (BD i ∨ wr.heap.size ≤ i) ∧ i < w5.heap.size) (hk : Keeps (threeB mo mw mt) wr w5)
    (hr : RefSet w6 b2 vo' vw' vn' vm' F' (fun i => BL i ∧ ¬ fourB b2 mo mw mt i) O2' W2') (hF : ∀ i, F' i → F i ∨ w5.heap.size ≤ i) (hk2 : Keeps F w5 w6) (hinv : DInv ⟨O'.map E3.ent, W'.map E3.ent⟩) (e1 : O2'.map E3.ent = O'.map E3.ent) (e2 : W2'.map E3.ent = W'.map E3.ent) :
    KeepSt w4 w6 b mo mw mt b2 N1 N2 BL BD' F' O' W' O2' W2' T' vo' vw' vn' vm' := by
  have hz := h.keep.size
  have hz5 := hk.size
  have hnF : ∀ i, BD' i → ¬ F i := fun i hi hf => (hB i hi).1.elim (fun h1 => (h.bd i h1).2.2 hf) (fun h1 => by have := h.ref.flt i hf; omega)
  refine ⟨hd.keeps hk2.size (fun i hi hb => hk2.block i hi (hnF i hb)), hr, hinv, e1, e2, fun i hi => ⟨?_, Nat.lt_of_lt_of_le (hB i hi).2 hk2.size, fun hf => ?_⟩, fun i hi => ?_, h.bl, ?_⟩
  · exact (hB i hi).1.elim (fun h1 => (h.bd i h1).1) (fun h1 => .inr (by omega))
  · exact (hF i hf).elim (hnF i hi) (fun h1 => by have := (hB i hi).2; omega)
  · exact (hF i hi).elim (h.fn i) (fun h1 => .inr (by omega))
  · exact (h.keep.trans (hk.mono (fun i hi => .inr hi))).trans' hk2 (fun i hi => (h.fn i hi).imp .inl id)
end

/-- rows of predecessors lie where numbers lie -/
theorem E3.Ok.away {w : World} {e : E3} {B : Nat → Prop} (h : e.Ok w B) {bad : Nat → Prop} (hb : ∀ i, bad i → ∀ off x, w.cell? ⟨i, off, none⟩ ≠ some (bv x)) : e.Ok w (fun i => B i ∧ ¬ bad i) :=
  ⟨h.ok, h.len, h.src, fun b off e' hne => ⟨h.at_ b off e' hne, fun hbad => by
    cases hp : e.o.preds with
    | nil => exact hne hp
    | cons x r =>
      have h32 : x.length = 32 := h.ok.ids x (by rw [hp]; simp)
      have h0 : (pcs e.o.preds)[32 * 0 + 0]? = some (bv (x.getD 0 0)) := pcs_at h.ok.ids (n := 0) (x := x) (by rw [hp]; rfl) (bcs_get (by omega))
      obtain ⟨b', off', e2, hc⟩ := h.src.at_ _ _ h0
      rw [e'] at e2
      simp only [Option.some.injEq, Addr.mk.injEq, and_true] at e2
      exact hb b hbad _ _ (by rw [e2.1]; exact hc)⟩⟩

/-! ### append of what lies anywhere -/
theorem wpList_append_S {P : Program} {w : World} {ops : Array Oper} {rest : List Oper} {o : Oper} {a : Act} {Q : Exit → Act → World → Prop} (hgd : o.guard = none) (s x : Operand) (t : TypeId)
    (ho : o.op = .call { callee := .builtin .append, args := #[s, x], argTypes := #[t, t] })
    (base : Nat) (e : TypeId) (i : TypeInfo) (z : Value) (size bytes : Nat) (ht : P.underlying t = some (.slice e)) (hi : P.info? e = some i) (hz : i.zero = some z)
    (hsize : i.size = size) (hby : i.bytes = bytes) (hzs : z.cells.size = size) (hsz : 0 < size)
    (v : Value) (n : Nat) (xs : List Value) (hs : a.eval s = v) (hown : Owns w base e size v n xs)
    (A : Option Addr) (m c : Nat) (news : List Value) (hx : a.eval x = .slice A m c) (hl : news.length = m * size) (hsrc : Src w A news) (h1 : ∀ u ∈ news, u.oneCell' = true)
    (h63 : n + m ≤ maxLen) (hbytes : (n + m) * bytes ≤ 140737488355328) (hbase : base ≤ w.heap.size)
    (h : ∀ v' w', Owns w' base e size v' (n + m) (xs ++ news) → w.grownBy w' v.ownBlock → (v'.ownBlock = v.ownBlock ∨ v'.ownBlock = some w.heap.size) → wpList P ops Q rest (a.put o.dst v') w') : wpList P ops Q (o :: rest) a w := by
  by_cases hne : news = []
  · subst hne
    have hm : m = 0 := by
      rcases Nat.eq_zero_or_pos m with h0 | h0
      · exact h0
      · have := Nat.mul_pos h0 hsz
        simp at hl
        omega
    subst hm
    cases A with
    | none => exact wpList_append_G hgd s x t ho base e i z size bytes ht hi hz hsize hby hzs hsz v n xs hs hown none 0 c [] hx hl hsrc.at_ (fun a e => by cases e) h1 h63 hbytes hbase h
    | some q =>
      obtain ⟨p, cap, rfl⟩ := hown.form
      refine wpList_append_zero hgd s x t ho e i ht hi p n cap hown.cap_le.1 q c hs hx ?_
      exact h _ _ (by simpa using hown) (World.grownBy.refl _ _) (.inl rfl)
  · exact wpList_append_G hgd s x t ho base e i z size bytes ht hi hz hsize hby hzs hsz v n xs hs hown A m c news hx hl hsrc.at_ (hsrc.spot hne) h1 h63 hbytes hbase h
theorem wpList_buildNil {P : Program} {w : World} {ops : Array Oper} {rest : List Oper} {o : Oper} {a : Act} {Q : Exit → Act → World → Prop} (hgd : o.guard = none) (t : TypeId) (hop : o.op = .buildSlice t 0 #[]) (e : TypeId) (n : Nat) (ht : P.underlying t = some (.slice e)) (hi : (P.info? e).map (·.size) = some n)
    (h : wpList P ops Q rest (a.put o.dst (.slice (some ⟨w.heap.size, 0, none⟩) 0 0)) (w.alloc (.cells #[] e))) : wpList P ops Q (o :: rest) a w :=
  wpList_plain hgd fun _ hK => wp_buildNil t hop e n ht hi (hK _ _ h)

/-! ### a row of bytes -/
def ByteRow (w : World) (g n : Nat) : Prop := ∃ cur t, w.heap[g]? = some (.cells cur t (0, 0)) ∧ ∀ j, j < n * 32 → ∃ z : Int, cur[j]? = some (.int .u8 z)
section
variable {w w' : World} {g n : Nat}
theorem ByteRow.of_block (h : ByteRow w g n) (hb : w'.heap[g]? = w.heap[g]?) : ByteRow w' g n := by
  obtain ⟨cur, t, h1, h2⟩ := h
  exact ⟨cur, t, hb.trans h1, h2⟩
theorem ByteRow.lt (h : ByteRow w g n) : g < w.heap.size := by
  obtain ⟨cur, t, h1, _⟩ := h
  exact (Array.getElem?_eq_some_iff.1 h1).1
theorem ByteRow.cell (h : ByteRow w g n) {i : Nat} (hi : i < n) : ∃ z : Int, w.cell? ⟨g, i * 32, none⟩ = some (.int .u8 z) := by
  obtain ⟨cur, t, h1, h2⟩ := h
  obtain ⟨z, hz⟩ := h2 (i * 32) (by omega)
  exact ⟨z, by rw [cell_of_row _ _ _ _ _ _ h1]; exact hz⟩
theorem ByteRow.free (h : ByteRow w g n) (i : Nat) : w.frozen? ⟨g, i, none⟩ = false := by
  obtain ⟨cur, t, h1, _⟩ := h
  simp [World.frozen?, h1]
theorem ByteRow.set (h : ByteRow w g n) (i : Nat) (z : Int) : ByteRow (w.setCell ⟨g, i, none⟩ (.int .u8 z)) g n := by
  obtain ⟨cur, t, h1, h2⟩ := h
  refine ⟨cur.setIfInBounds i (.int .u8 z), t, by rw [setCell_eq_setRow w g i _ _ (0, 0) _ h1, setRow_heap w g _ _ _ (0, 0) h1], fun j hj => ?_⟩
  obtain ⟨y, hy⟩ := h2 j hj
  rw [Array.getElem?_setIfInBounds]
  split
  · rename_i e
    subst e
    have hlt := (Array.getElem?_eq_some_iff.1 hy).1
    rw [if_pos hlt]
    exact ⟨z, rfl⟩
  · exact ⟨y, hy⟩
theorem ByteRow.put {g' m : Nat} (h : ByteRow w g n) (h' : ByteRow w g' m) (i : Nat) (z : Int) : ByteRow (w.setCell ⟨g', i, none⟩ (.int .u8 z)) g n := by
  by_cases e : g = g'
  · subst e
    exact h.set i z
  · exact h.of_block (Below.heap_setCell _ _ _ _ (fun e' => e e'))
theorem Owns.place {base : Nat} {e : TypeId} {size n c : Nat} {p : Option Addr} {xs : List Value} (h : Owns w base e size (.slice p n c) n xs) : n = 0 ∨ ∃ g, p = some ⟨g, 0, none⟩ := by
  rcases h.2 with ⟨_, h0⟩ | ⟨g, cap, cur, fz, hv, _⟩
  · exact .inl h0
  · simp only [Value.slice.injEq] at hv
    exact .inr ⟨g, hv.1⟩
theorem Keeps.setCell {S : Nat → Prop} {w0 : World} (h : Keeps S w0 w) {a : Addr} (hs : S a.block) (v : Value) : Keeps S w0 (w.setCell a v) :=
  h.trans ⟨rfl, rfl, rfl, by simp [World.setCell], fun i _ hi => Below.heap_setCell _ _ _ _ (fun e => hi (e ▸ hs))⟩
theorem ByteRow.of_owns {base : Nat} {e : TypeId} {v : Value} {X : List Nm} (h : Owns w base e 32 v X.length (pcs X)) (h32 : ∀ x ∈ X, x.length = 32) {g : Nat} (hg : v.ownBlock = some g) : ByteRow w g X.length := by
  obtain ⟨cap, cur, rfl, h1, h2, h3, h4⟩ := h.row (by omega) hg
  refine ⟨cur, e, h1, fun j hj => ?_⟩
  have hpl := pcs_length h32
  have h5 : (pcs X)[j]? = cur[j]? := by
    rw [← h4, List.getElem?_take, if_pos hj]
    simp
  rw [← h5, List.getElem?_eq_getElem (by omega)]
  have hm : (pcs X)[j]'(by omega) ∈ pcs X := List.getElem_mem _
  simp only [pcs, List.mem_flatMap, bcs, List.mem_map] at hm
  obtain ⟨x, _, c, _, hc⟩ := hm
  refine ⟨c.toNat, ?_⟩
  rw [show (pcs X)[j]'(by omega) = bv c from hc.symm]
theorem ByteRow.of_src {base : Nat} {e : TypeId} {p : Option Addr} {c : Nat} {X : List Nm} (h : Owns w base e 32 (.slice p X.length c) X.length (pcs X)) (h32 : ∀ x ∈ X, x.length = 32) : ∀ g, p = some ⟨g, 0, none⟩ → ByteRow w g X.length := fun g e => ByteRow.of_owns h h32 (by rw [e]; rfl)
/-- three rows of bytes -/
def Rows3 (w : World) (p1 p2 p3 : Option Addr) (a b c : Nat) : Prop := (∀ g, p1 = some ⟨g, 0, none⟩ → ByteRow w g a) ∧ (∀ g, p2 = some ⟨g, 0, none⟩ → ByteRow w g b) ∧ (∀ g, p3 = some ⟨g, 0, none⟩ → ByteRow w g c)
theorem Rows3.put {p1 p2 p3 : Option Addr} {a b c g' m : Nat} (h : Rows3 w p1 p2 p3 a b c) (h' : ByteRow w g' m) (i : Nat) (z : Int) : Rows3 (w.setCell ⟨g', i, none⟩ (.int .u8 z)).drew p1 p2 p3 a b c :=
  ⟨fun g e => (h.1 g e).put h' i z, fun g e => (h.2.1 g e).put h' i z, fun g e => (h.2.2 g e).put h' i z⟩
end
end Go.Proofs.YtfoifdhcelcgiaaGreatDoor
