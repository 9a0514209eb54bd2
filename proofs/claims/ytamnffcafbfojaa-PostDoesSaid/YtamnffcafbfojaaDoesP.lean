/-
  POST: PostDoes, walked.
-/
import Derived.Test.YtamnffcafbfojaaRef4
namespace Go.Proofs.Ytamnffcafbfojaa
open Go Go.RowKit

/-- a call of a script -/
structure CallV where
  kind : Int
  seq : Int
  node : Int
  mask : Int
  at_ : Int
  lp : Option Addr
  lcap : Nat
  es : List Ent

instance : Inhabited CallV := ⟨⟨0, 0, 0, 0, 0, none, 0, []⟩⟩

structure CallAt (w : World) (B b off : Nat) (c : CallV) : Prop where
  kind : w.cell? ⟨b, off, none⟩ = some (.int .i64 c.kind)
  seq : w.cell? ⟨b, off + 1, none⟩ = some (.int .i64 c.seq)
  node : w.cell? ⟨b, off + 2, none⟩ = some (.int .i64 c.node)
  mask : w.cell? ⟨b, off + 3, none⟩ = some (.int .i64 c.mask)
  at_ : w.cell? ⟨b, off + 4, none⟩ = some (.int .i64 c.at_)
  list : w.cell? ⟨b, off + 5, none⟩ = some (.slice c.lp c.es.length c.lcap)
  i1 : I64 c.seq
  i2 : I64 c.node
  ents : EntsAt w B c.lp c.es
  len : c.es.length ≤ 9223372036854775807

def CallsAt (w : World) (B : Nat) (p : Option Addr) (cs : List CallV) : Prop :=
  ∀ i, i < cs.length → ∃ b off, p = some ⟨b, off, none⟩ ∧ b < B ∧ CallAt w B b (off + i * 6) (cs.getD i default)

theorem CallAt.below {w w' : World} {B b off : Nat} {c : CallV} (h : CallAt w B b off c) (hb : b < B) (hw : Below B w w') : CallAt w' B b off c :=
  ⟨(hw.cell (p := ⟨b, _, none⟩) hb).trans h.kind, (hw.cell (p := ⟨b, _, none⟩) hb).trans h.seq, (hw.cell (p := ⟨b, _, none⟩) hb).trans h.node, (hw.cell (p := ⟨b, _, none⟩) hb).trans h.mask, (hw.cell (p := ⟨b, _, none⟩) hb).trans h.at_, (hw.cell (p := ⟨b, _, none⟩) hb).trans h.list, h.i1, h.i2, h.ents.below hw, h.len⟩

theorem CallsAt.below {w w' : World} {B : Nat} {p : Option Addr} {cs : List CallV} (h : CallsAt w B p cs) (hw : Below B w w') : CallsAt w' B p cs := fun i hi => by
  obtain ⟨b, off, h1, h2, h3⟩ := h i hi
  exact ⟨b, off, h1, h2, h3.below h2 hw⟩

/-- ours, and the document's, hold the same -/
structure Twin (w : World) (pb mw mc mb B : Nat) (xW xC : Value) (L W : List Dv) (C : List ((Int × Int) × Int)) (n : Nat) : Prop where
  ours : IsPost w pb mw mc W C
  ref : IsRef w mb B xW xC L C.reverse
  sorted : Sorted L
  perm : L.Perm W
  small : ∀ d ∈ W, I64 d.to ∧ I64 d.seq
  lenW : W.length ≤ 100 * n
  lenC : C.length ≤ 20 * n

theorem Twin.below {w w' : World} {pb mw mc mb B : Nat} {xW xC : Value} {L W : List Dv} {C : List ((Int × Int) × Int)} {n : Nat} (h : Twin w pb mw mc mb B xW xC L W C n) (hb : Below w.heap.size w w') : Twin w' pb mw mc mb B xW xC L W C n :=
  ⟨h.ours.below hb, h.ref.below hb, h.sorted, h.perm, h.small, h.lenW, h.lenC⟩

theorem IsRef.keeps {S : Nat → Prop} {w w' : World} {mb B : Nat} {vW vC : Value} {L : List Dv} {M : List ((Int × Int) × Int)} (h : IsRef w mb B vW vC L M) (hk : Keeps S w w') (hS : ∀ i, B ≤ i → ¬ S i) : IsRef w' mb B vW vC L M :=
  ⟨(hk.block mb h.lt (hS mb h.at_)).trans h.box, h.at_, ownsRow_keep h.wait fun g hg => hk.block g (ownsRow_lt h.wait hg).2 (hS g (ownsRow_lt h.wait hg).1), ownsRow_keep h.came fun g hg => hk.block g (ownsRow_lt h.came hg).2 (hS g (ownsRow_lt h.came hg).1)⟩

theorem IsPost.under {w w' : World} {pb mw mc B : Nat} {W : List Dv} {C : List ((Int × Int) × Int)} (h : IsPost w pb mw mc W C) (hb : Below B w w') (h1 : pb < B) (h2 : mw < B) (h3 : mc < B) : IsPost w' pb mw mc W C :=
  ⟨(hb.block pb h1).trans h.box, h.wait.of_block (hb.block _ h2), h.came.of_block (hb.block _ h3), h.ne⟩

/-! ### what keeps small -/
theorem small_of_keyIn {W W' : List Dv} (h : ∀ d ∈ W, I64 d.to ∧ I64 d.seq) (hk : ∀ x, keyIn W' x → (I64 x.1 ∧ I64 x.2) ∨ keyIn W x) : ∀ d ∈ W', I64 d.to ∧ I64 d.seq := fun d hd => by
  rcases hk d.key ⟨d, hd, rfl⟩ with h1 | ⟨d', hd', e⟩
  · exact h1
  · have := h d' hd'
    have e1 : d'.to = d.to := (Prod.mk.inj e).1
    have e2 : d'.seq = d.seq := (Prod.mk.inj e).2
    rw [← e1, ← e2]
    exact this

theorem small_sentN {W : List Dv} (h : ∀ d ∈ W, I64 d.to ∧ I64 d.seq) (s m : Int) (hs : I64 s) : ∀ d ∈ sentN W s m 5, I64 d.to ∧ I64 d.seq :=
  small_of_keyIn h fun x hx => by
    rcases (keyIn_sentN W s m x 5).1 hx with ⟨k, hk, _, rfl⟩ | hx
    · left; exact ⟨by unfold I64; simp only; omega, hs⟩
    · exact .inr hx

theorem small_loadW {W : List Dv} (h : ∀ d ∈ W, I64 d.to ∧ I64 d.seq) (es : List Ent) (hn : es.length ≤ 1000) : ∀ d ∈ loadW es W es.length, I64 d.to ∧ I64 d.seq :=
  small_of_keyIn h fun x hx => by
    rcases keyIn_loadW es W x es.length hx with ⟨k, i, hk, hi, rfl⟩ | hx
    · left; exact ⟨by unfold I64; simp only; omega, by unfold I64; simp only; omega⟩
    · exact .inr hx

theorem small_acked {W : List Dv} (h : ∀ d ∈ W, I64 d.to ∧ I64 d.seq) (k : Int × Int) : ∀ d ∈ acked W k, I64 d.to ∧ I64 d.seq := fun d hd => h d (List.mem_filter.1 hd).1

theorem small_older {W : List Dv} (h : ∀ d ∈ W, I64 d.to ∧ I64 d.seq) : ∀ d ∈ W.map older, I64 d.to ∧ I64 d.seq := fun d hd => by
  obtain ⟨d', hd', rfl⟩ := List.mem_map.1 hd
  exact h d' hd'

theorem length_comes (C : List ((Int × Int) × Int)) (k : Int × Int) (x : Int) : (comes C k x).length ≤ C.length + 1 := by
  unfold comes
  split <;> simp

theorem length_loadC (es : List Ent) (C : List ((Int × Int) × Int)) : ∀ n, (loadC es C n).length ≤ C.length + n
  | 0 => by simp [loadC]
  | n + 1 => by
    have ih := length_loadC es C n
    unfold loadC stepC
    split
    · have := length_comes (loadC es C n) ((es.getD n default).from_, (es.getD n default).seq) (n + 1); omega
    · omega

/-- what Dues says of ours is the document's list, cell by cell -/
theorem dues_flat {L W : List Dv} {xs : List (Int × Int)} (hx : xs.Perm (W.map Dv.key)) (hs : Sorted L) (hp : L.Perm W) (hn : (W.map Dv.key).Nodup) : (ksort xs).length = L.length ∧ (ksort xs).flatMap (dcell W) = L.flatMap lcell := by
  rw [ksort_sorted hs hp hx]
  refine ⟨by simp, ?_⟩
  rw [List.flatMap_map]
  have : ∀ d ∈ L, dcell W d.key = lcell d := fun d hd => by
    unfold dcell lcell
    rw [getW_of hn (hp.mem_iff.1 hd)]
    rfl
  clear hs hx
  have key : ∀ l : List Dv, (∀ d ∈ l, dcell W d.key = lcell d) → l.flatMap (fun d => dcell W d.key) = l.flatMap lcell := fun l => by
    induction l with
    | nil => intro _; rfl
    | cons a l ih =>
      intro h
      rw [List.flatMap_cons, List.flatMap_cons, h a (by simp), ih (fun d hd => h d (by simp [hd]))]
  exact key L this
end Go.Proofs.Ytamnffcafbfojaa
