/-
  POST: Load, of the entries of a log.
-/
import Derived.Test.YtamnffcafbfojaaAlive
import Derived.Test.YtamnffcafbfojaaAgg
namespace Go.Proofs.Ytamnffcafbfojaa
open Go Go.RowKit

/-- what of an entry the post reads -/
structure Ent where
  kind : Int
  from_ : Int
  seq : Int
  mask : Int
  deriving Inhabited

/-- an entry, laid out in these cells -/
structure EntCells (cs : List Value) (e : Ent) : Prop where
  len : cs.length = 73
  one : ∀ u ∈ cs, u.oneCell' = true
  kind : cs[0]? = some (.int .i64 e.kind)
  from_ : cs[36]? = some (.int .i64 e.from_)
  seq : cs[37]? = some (.int .i64 e.seq)
  mask : cs[70]? = some (.int .i64 e.mask)
  i1 : I64 e.from_
  i2 : I64 e.seq

def EntsAt (w : World) (B : Nat) (p : Option Addr) (es : List Ent) : Prop :=
  ∀ i, i < es.length → ∃ b off, p = some ⟨b, off, none⟩ ∧ b < B ∧ ∃ cs, cellsAt w b (off + i * 73) cs ∧ EntCells cs (es.getD i default)

theorem EntsAt.below {w w' : World} {B : Nat} {p : Option Addr} {es : List Ent} (h : EntsAt w B p es) (hb : Below B w w') : EntsAt w' B p es := fun i hi => by
  obtain ⟨b, off, h1, h2, cs, h3, h4⟩ := h i hi
  exact ⟨b, off, h1, h2, cs, h3.of_block (hb.block b h2), h4⟩

def stepW (W : List Dv) (i : Nat) (e : Ent) : List Dv := if e.kind = 3 then sentN W (i + 1) e.mask 5 else W
def stepC (C : List ((Int × Int) × Int)) (i : Nat) (e : Ent) : List ((Int × Int) × Int) := if e.kind = 2 then comes C (e.from_, e.seq) (i + 1) else C
def loadW (es : List Ent) (W : List Dv) : Nat → List Dv
  | 0 => W
  | n + 1 => stepW (loadW es W n) n (es.getD n default)
def loadC (es : List Ent) (C : List ((Int × Int) × Int)) : Nat → List ((Int × Int) × Int)
  | 0 => C
  | n + 1 => stepC (loadC es C n) n (es.getD n default)

/-- all but what S names stays -/
structure Keeps (S : Nat → Prop) (w w' : World) : Prop where
  os : w'.os = w.os
  tape : w'.tape = w.tape
  output : w'.output = w.output
  size : w.heap.size ≤ w'.heap.size
  block : ∀ b, b < w.heap.size → ¬ S b → w'.heap[b]? = w.heap[b]?

theorem Keeps.refl (S : Nat → Prop) (w : World) : Keeps S w w := ⟨rfl, rfl, rfl, Nat.le_refl _, fun _ _ _ => rfl⟩
theorem Keeps.trans {S : Nat → Prop} {a b c : World} (h : Keeps S a b) (k : Keeps S b c) : Keeps S a c :=
  ⟨k.os.trans h.os, k.tape.trans h.tape, k.output.trans h.output, Nat.le_trans h.size k.size, fun i hi hs => (k.block i (Nat.lt_of_lt_of_le hi h.size) hs).trans (h.block i hi hs)⟩
theorem Keeps.mono {S T : Nat → Prop} {a b : World} (h : Keeps S a b) (hs : ∀ i, S i → T i) : Keeps T a b :=
  ⟨h.os, h.tape, h.output, h.size, fun i hi ht => h.block i hi (fun x => ht (hs i x))⟩
theorem Keeps.of_below {S : Nat → Prop} {w w' : World} (h : Below w.heap.size w w') : Keeps S w w' :=
  ⟨h.os, h.tape, h.output, h.size, fun i hi _ => h.block i hi⟩
theorem Keeps.of_grown {S : Nat → Prop} {w w' : World} {r : Nat} (h : w.grownBy w' (some r)) (hr : S r) : Keeps S w w' :=
  ⟨h.os, h.tape, h.output, h.size, fun i hi hs => h.block i hi (fun e => hs (by cases e; exact hr))⟩
theorem Keeps.toBelow {S : Nat → Prop} {w w' : World} {B : Nat} (h : Keeps S w w') (hB : B ≤ w.heap.size) (hs : ∀ i, i < B → ¬ S i) : Below B w w' :=
  ⟨h.os, h.tape, h.output, h.size, fun i hi => h.block i (Nat.lt_of_lt_of_le hi hB) (hs i hi)⟩
theorem Keeps.alloc (S : Nat → Prop) (w : World) (o : Obj) : Keeps S w (w.alloc o) := Keeps.of_below (((Below.refl _ w).alloc (Nat.le_refl _) o))

theorem IsPost.keeps {S : Nat → Prop} {w w' : World} {pb mw mc : Nat} {W : List Dv} {C : List ((Int × Int) × Int)} (h : IsPost w pb mw mc W C) (hk : Keeps S w w') (h1 : ¬ S pb) (h2 : ¬ S mw) (h3 : ¬ S mc) : IsPost w' pb mw mc W C :=
  ⟨(hk.block pb (Array.getElem?_eq_some_iff.1 h.box).1 h1).trans h.box, h.wait.of_block (hk.block _ h.wait.lt h2), h.came.of_block (hk.block _ h.came.lt h3), h.ne⟩

theorem entInfo : (Try.prog.info? 44).map (fun i => (i.zero.map (·.cells.size), i.size)) = some (some 73, 73) := by kernel_rfl

theorem new_cell {w : World} {cs : List Value} {e : TypeId} {j : Nat} {u : Value} (h : cs[j]? = some u) : (w.alloc (.cells cs.toArray e)).cell? ⟨w.heap.size, j, none⟩ = some u := by
  have := cellsAt_new w cs.toArray e j u (by simpa using h)
  simpa using this

def twoB (a b : Nat) : Nat → Prop := fun i => i = a ∨ i = b

set_option maxRecDepth 100000 in
set_option maxHeartbeats 800000 in
theorem load_any (pb mw mc B : Nat) (W : List Dv) (C : List ((Int × Int) × Int)) (p1 : Option Addr) (cap1 : Nat) (es : List Ent) (w : World) (h : IsPost w pb mw mc W C) (hE : EntsAt w B p1 es) (hn : es.length ≤ 60) (hB : B ≤ w.heap.size) (hw : B ≤ mw) (hc : B ≤ mc) :
    Calls Try.prog 16 #[.pointer (some ⟨pb, 0, none⟩), .slice p1 es.length cap1] w fun e w' => e = .returned (.tuple #[]) ∧ IsPost w' pb mw mc (loadW es W es.length) (loadC es C es.length) ∧ Keeps (twoB mw mc) w w' := by
  obtain ⟨hi, Z, hZ, hZ2⟩ := zero_of (P := Try.prog) entInfo
  have H0 := Lib.hid h
  have H1 := Lib.hid hE
  have H2 := Lib.hid hZ
  have H3 := Lib.hid hZ2
  have H4 := Lib.hid hi
  clear h hE hZ hZ2 hi
  go_enter Try.func16, Try.ntmps16
  go_wp2
  go_loopw [8] (fun i wr => ∃ n : Nat, n ≤ es.length ∧ i = .int .i64 n ∧ IsPost wr pb mw mc (loadW es W n) (loadC es C n) ∧ Keeps (twoB mw mc) w wr) (fun i _ => es.length - (intOf i).toNat)
  case atStart => exact ⟨0, by omega, rfl, H0.out, Keeps.refl _ _⟩
  case round =>
    obtain ⟨n, hn1, rfl, hp, hk⟩ := hrel
    by_cases hlt : n < es.length
    · obtain ⟨b, off, rfl, hb, cs, hcs, hec⟩ := H1.out n hlt
      have hbel : Below B w wr := hk.toBelow hB (fun i hi hs => by rcases hs with rfl | rfl <;> omega)
      have hcs' : cellsAt wr b (off + n * 73) cs := hcs.of_block (hbel.block b hb)
      have eW : loadW es W (n + 1) = stepW (loadW es W n) n (es.getD n default) := rfl
      have eC : loadC es C (n + 1) = stepC (loadC es C n) n (es.getD n default) := rfl
      have hec2 := hec
      have HEW := Lib.hid eW
      have HEC := Lib.hid eC
      clear eW eC hec2
      generalize es.getD n default = e at hec HEW HEC
      have H5 := Lib.hid hec
      have H6 := Lib.hid hcs'
      have H7 := Lib.hid hp
      have H8 := Lib.hid hk
      have k0 : (wr.alloc (.cells cs.toArray 44)).cell? ⟨wr.heap.size, 0, none⟩ = some (.int .i64 e.kind) := new_cell hec.kind
      have k1 : (wr.alloc (.cells cs.toArray 44)).cell? ⟨wr.heap.size, 36, none⟩ = some (.int .i64 e.from_) := new_cell hec.from_
      have k2 : (wr.alloc (.cells cs.toArray 44)).cell? ⟨wr.heap.size, 37, none⟩ = some (.int .i64 e.seq) := new_cell hec.seq
      have k3 : (wr.alloc (.cells cs.toArray 44)).cell? ⟨wr.heap.size, 70, none⟩ = some (.int .i64 e.mask) := new_cell hec.mask
      have hpA := hp.below ((Below.refl _ wr).alloc (Nat.le_refl _) (.cells cs.toArray 44))
      have hkA := hk.trans (Keeps.alloc (twoB mw mc) wr (.cells cs.toArray 44))
      have HP := Lib.hid hpA
      have HK := Lib.hid hkA
      clear hec hcs hcs' hp hk hbel hpA hkA
      by_cases e3 : e.kind = 3
      · have d3 : (e.kind == 3) = true := by simpa using e3
        have sW : stepW (loadW es W n) n e = sentN (loadW es W n) (n + 1) e.mask 5 := if_pos e3
        have sC : stepC (loadC es C n) n e = loadC es C n := if_neg (by omega)
        have HW := Lib.hid (HEW.out.trans sW)
        have HC := Lib.hid (HEC.out.trans sC)
        clear sW sC e3
        go_wp2_with (first
          | (refine wpList_loadAgg _ rfl 44 _ rfl _ Try.underlying44 rfl b (off + n * 73) rfl cs (by rw [H4.out, H5.out.len]) H6.out ?_)
          | (refine wpList_allocZ _ rfl 44 rfl Z H2.out ?_)
          | (refine wpList_storeNew _ wr rfl 44 _ _ rfl Z.cells rfl rfl cs.toArray rfl (by rw [H4.out, List.size_toArray, H5.out.len]) (by rw [H3.out, List.size_toArray, H5.out.len]) (by simpa using H5.out.one) ?_))
        refine (sent_any pb mw mc _ _ ((n : Int) + 1) e.mask _ HP.out (by unfold I64; omega)).mono ?_
        rintro e w3 ⟨rfl, hp3, hg3, hs3⟩
        rw [← HW.out, ← HC.out] at hp3
        have G8 := Lib.hid hp3
        have G9 := Lib.hid (HK.out.trans (Keeps.of_grown hg3 (.inl rfl)))
        clear hp3 hg3 hs3
        go_wp2
        go_roundw
        case rel => exact ⟨n + 1, by omega, by go_num, G8.out, G9.out⟩
        case measure => simp [intOf]; omega
      have d3 : (e.kind == 3) = false := by simpa using e3
      have sW : stepW (loadW es W n) n e = loadW es W n := if_neg e3
      have HW := Lib.hid (HEW.out.trans sW)
      clear sW
      by_cases e2 : e.kind = 2
      · have d2 : (e.kind == 2) = true := by simpa using e2
        have sC : stepC (loadC es C n) n e = comes (loadC es C n) (e.from_, e.seq) (n + 1) := if_pos e2
        have HC := Lib.hid (HEC.out.trans sC)
        clear sC e2 e3
        go_wp2_with (first
          | (refine wpList_loadAgg _ rfl 44 _ rfl _ Try.underlying44 rfl b (off + n * 73) rfl cs (by rw [H4.out, H5.out.len]) H6.out ?_)
          | (refine wpList_allocZ _ rfl 44 rfl Z H2.out ?_)
          | (refine wpList_storeNew _ wr rfl 44 _ _ rfl Z.cells rfl rfl cs.toArray rfl (by rw [H4.out, List.size_toArray, H5.out.len]) (by rw [H3.out, List.size_toArray, H5.out.len]) (by simpa using H5.out.one) ?_))
        refine (came_any pb mw mc _ _ (e.from_, e.seq) ((n : Int) + 1) _ HP.out H5.out.i1 H5.out.i2).mono ?_
        rintro e w3 ⟨rfl, hp3, hg3, hs3⟩
        rw [← HW.out, ← HC.out] at hp3
        have G8 := Lib.hid hp3
        have G9 := Lib.hid (HK.out.trans (Keeps.of_grown hg3 (.inr rfl)))
        clear hp3 hg3 hs3
        go_wp2
        go_roundw
        case rel => exact ⟨n + 1, by omega, by go_num, G8.out, G9.out⟩
        case measure => simp [intOf]; omega
      · have d2 : (e.kind == 2) = false := by simpa using e2
        have sC : stepC (loadC es C n) n e = loadC es C n := if_neg e2
        have HC := Lib.hid (HEC.out.trans sC)
        clear sC e2 e3
        go_wp2_with (first
          | (refine wpList_loadAgg _ rfl 44 _ rfl _ Try.underlying44 rfl b (off + n * 73) rfl cs (by rw [H4.out, H5.out.len]) H6.out ?_)
          | (refine wpList_allocZ _ rfl 44 rfl Z H2.out ?_)
          | (refine wpList_storeNew _ wr rfl 44 _ _ rfl Z.cells rfl rfl cs.toArray rfl (by rw [H4.out, List.size_toArray, H5.out.len]) (by rw [H3.out, List.size_toArray, H5.out.len]) (by simpa using H5.out.one) ?_))
        go_roundw
        case rel => exact ⟨n + 1, by omega, by go_num, by rw [HW.out, HC.out]; exact HP.out, HK.out⟩
        case measure => simp [intOf]; omega
    · obtain rfl : n = es.length := by omega
      go_wp2
      go_end0
      exact ⟨rfl, hp, hk⟩
end Go.Proofs.Ytamnffcafbfojaa
