/-
  Drafts and operations: their bytes and names; names as keys; their order.
-/
import Derived.Test.YtfoifdhcelcgiaaGreatDoorJb
import Derived.Test.YtfoifdhcelcgiaaGreatDoorJa
import Derived.Deep.DeepCutAuto
import Derived.DeepKeys3
import Derived.DeepKeys4
import Derived.Lib.BytesEntry
import Derived.BigQuiet
/- A DRAFT AND AN OPERATION AS VALUES; THE DRAFT's TEXT BY BOTH. -/
namespace Go.Proofs.YtfoifdhcelcgiaaGreatDoor
open Go Go.RowKit

section
variable {P : Program} {ops : Array Oper} {Q : Exit → Act → World → Prop} {md : Region.Mode} {S : World → Prop} {n : Nat}
/-- string(b), of bytes that S names -/
theorem Till.bytes (i : Nat) {fuel : Nat} {oi : Oper} {listed : Array Bool} {a : Act} {w : World} (src dst : TypeId) (x : Operand) (e : TypeId) (A : Option Addr) (l : List UInt8) (m c : Nat) {rest : List Oper} (hi0 : ops.toList.drop i = oi :: rest) (hop : oi.op = .convert src dst x) (hw : Region.wanted oi (yielded ops a.tmps) = true)
    (hs : P.underlying src = some (.slice e)) (he : P.underlying e = some (.int .u8)) (hd : P.underlying dst = some .string) (hx : a.eval x = .slice A m c) (hm : m = l.length) (hA : ∀ a, A = some a → a.spot = none)
    (hB : mayB md ops n i listed = true) (hQ : NoFrame Q) (hS : S w) (hl : ∀ w', S w' → SrcAt w' A (bcs l))
    (h : Till P md ops Q S n fuel (listed.setIfInBounds i true) (a.put oi.dst (txt l)) w) : Till P md ops Q S n (fuel + 1) listed a w := by
  subst hm
  exact Till.take (v := txt l) (at_drop hi0) hB hQ hS (.inl ⟨hw, fun w' hS' => by
    unfold execOp
    simp only [hop, hx, Sem.run_bind, run_bytes_txt w' src dst e hs he hd A l c (hl w' hS') hA, Sem.run_pure, Result.andThen_ok]⟩) h
end

/-- num -/
theorem rnum_any (n : Int) (w : World) (h2 : n ≤ 9223372036854775807) :
    Calls Tryz.prog 77 #[.int .i64 n] w fun e w' => e = .returned (txt (numB n.toNat)) ∧ Below w.heap.size w w' := by
  go_enter Tryz.func77, Tryz.ntmps77
  by_cases h : n < 0
  · have h0 : decide (n < 0) = true := by simpa using h
    go_wp2_with fail
    refine (rnum_nat 0 _ (by omega)).mono ?_
    rintro e w1 ⟨rfl, hb1⟩
    go_wp2
    go_ret
    exact ⟨by rw [show n.toNat = 0 by omega]; rfl, hb1⟩
  · have h0 : decide (n < 0) = false := by simpa using h
    obtain ⟨m, rfl⟩ : ∃ m : Nat, n = m := ⟨n.toNat, by omega⟩
    go_wp2_with fail
    refine (rnum_nat m _ (by omega)).mono ?_
    rintro e w1 ⟨rfl, hb1⟩
    go_wp2
    go_ret
    exact ⟨by rw [Int.toNat_natCast]; rfl, hb1⟩

structure Dr where
  kind : Int
  key : List UInt8
  value : List UInt8
  ref : List UInt8
deriving DecidableEq

structure Dr.Ok (d : Dr) : Prop where
  lo : -9223372036854775808 ≤ d.kind
  hi : d.kind ≤ 9223372036854775807
  ref : d.ref.length = 32
  key : d.key.length ≤ 1048576
  value : d.value.length ≤ 1048576

def Dr.cs (d : Dr) : List Value := .int .i64 d.kind :: txt d.key :: txt d.value :: bcs d.ref
def Dr.parts (d : Dr) : List (List UInt8) := [numB d.kind.toNat, d.key, d.value, d.ref]
def Dr.text (d : Dr) : List UInt8 := listB d.parts
theorem Dr.cs_length {d : Dr} (h : d.Ok) : d.cs.length = 35 := by simp [Dr.cs, bcs_length, h.ref]
theorem Dr.cs_one (d : Dr) : ∀ u ∈ d.cs, u.oneCell' = true := fun u hu => by
  simp only [Dr.cs, List.mem_cons] at hu
  rcases hu with rfl | rfl | rfl | hu
  · rfl
  · rfl
  · rfl
  · exact bcs_one _ u hu

def DrAt (w : World) (b off : Nat) (d : Dr) : Prop := cellsAt w b off d.cs
theorem DrAt.of_block {w w' : World} {b off : Nat} {d : Dr} (h : DrAt w b off d) (hb : w'.heap[b]? = w.heap[b]?) : DrAt w' b off d := cellsAt.of_block h hb
theorem DrAt.kind {w : World} {b off : Nat} {d : Dr} (h : DrAt w b off d) : w.cell? ⟨b, off, none⟩ = some (.int .i64 d.kind) := h 0 _ rfl
theorem DrAt.key {w : World} {b off : Nat} {d : Dr} (h : DrAt w b off d) : w.cell? ⟨b, off + 1, none⟩ = some (txt d.key) := h 1 _ rfl
theorem DrAt.value {w : World} {b off : Nat} {d : Dr} (h : DrAt w b off d) : w.cell? ⟨b, off + 2, none⟩ = some (txt d.value) := h 2 _ rfl
theorem DrAt.ref {w : World} {b off : Nat} {d : Dr} (h : DrAt w b off d) : SrcAt w (some ⟨b, off + 3, none⟩) (bcs d.ref) := fun j u hj =>
  ⟨b, off + 3, rfl, by have := h (j + 3) u (by simpa [Dr.cs] using hj); rw [show off + 3 + j = off + (j + 3) by omega]; exact this⟩

theorem draftInfo : (Tryz.prog.info? 44).map (·.size) = some 35 := by kernel_rfl

set_option maxRecDepth 100000 in
set_option maxHeartbeats 4000000 in
theorem draft_any (d : Dr) (hd : d.Ok) (w : World) :
    Calls Tryz.prog 118 #[.agg d.cs.toArray] w fun e w' => e = .returned (txt d.text) ∧ Below w.heap.size w w' := by
  have HD := Lib.hid hd
  have hat : DrAt (w.alloc (.cells d.cs.toArray 44)) w.heap.size 0 d := by simpa [DrAt] using cellsAt_new w d.cs.toArray 44
  have HA := Lib.hid hat
  clear hat hd
  go_enter Tryz.func118, Tryz.ntmps118
  go_upto_region 1 with (first | (refine wpList_boxAgg rfl 44 _ rfl d.cs.toArray (by rfl) ?_))
  refine wp_region_noPanic ?_
  refine wp_region_till 10 (fun w' => DrAt w' w.heap.size 0 d) (by kernel_rfl) (by kernel_rfl) ?_
  obtain ⟨wA, hwA⟩ : ∃ wA, wA = (w.alloc (.cells d.cs.toArray 44)).drew := ⟨_, rfl⟩
  have hS : DrAt wA w.heap.size 0 d := by rw [hwA]; exact HA.out
  have hBA : Below w.heap.size w wA := by rw [hwA]; exact ((Below.refl _ w).alloc (Nat.le_refl _) _).drew
  have hlt : w.heap.size < wA.heap.size := by rw [hwA]; show _ < ((w.alloc _).heap.size); simp
  rw [← hwA]
  have HS := Lib.hid hS
  have HB := Lib.hid hBA
  clear hwA hS hBA
  refine Till.pure 0 rfl rfl (by kernel_rfl) (NoPanic.noFrame _) HS.out ?_
  go_big_quiet_step (fail)
  refine wpQuiet_nil ?_
  refine Till.load 1 3 _ ⟨w.heap.size, 0, none⟩ (.int .i64 d.kind) rfl rfl rfl rfl (by kernel_rfl) (NoPanic.noFrame _) HS.out (fun w' hw' => run_loadVar_one Tryz.underlying3 rfl (by simpa using hw'.kind)) ?_
  go_simp
  refine Till.pure 3 rfl rfl (by kernel_rfl) (NoPanic.noFrame _) HS.out ?_
  go_big_quiet_step (fail)
  refine wpQuiet_nil ?_
  refine Till.load 4 9 _ ⟨w.heap.size, 1, none⟩ (txt d.key) rfl rfl rfl rfl (by kernel_rfl) (NoPanic.noFrame _) HS.out (fun w' hw' => run_loadVar_one Tryz.underlying9 rfl (by simpa using hw'.key)) ?_
  go_simp
  refine Till.pure 5 rfl rfl (by kernel_rfl) (NoPanic.noFrame _) HS.out ?_
  go_big_quiet_step (fail)
  refine wpQuiet_nil ?_
  refine Till.load 6 9 _ ⟨w.heap.size, 2, none⟩ (txt d.value) rfl rfl rfl rfl (by kernel_rfl) (NoPanic.noFrame _) HS.out (fun w' hw' => run_loadVar_one Tryz.underlying9 rfl (by simpa using hw'.value)) ?_
  go_simp
  refine Till.pure 7 rfl rfl (by kernel_rfl) (NoPanic.noFrame _) HS.out ?_
  go_big_quiet_step (fail)
  refine wpQuiet_nil ?_
  refine Till.pure 8 rfl rfl (by kernel_rfl) (NoPanic.noFrame _) HS.out ?_
  go_big_quiet_step (fail)
  refine wpQuiet_nil ?_
  refine Till.bytes 9 108 9 _ 5 (some ⟨w.heap.size, 3, none⟩) d.ref 32 32 rfl rfl rfl Tryz.underlying108 Tryz.underlying5 Tryz.underlying9 (by rfl) HD.out.ref.symm (fun a e => by cases e; rfl) (by kernel_rfl) (NoPanic.noFrame _) HS.out (fun w' hw' => by simpa using hw'.ref) ?_
  go_simp
  refine Till.act 2 rfl rfl (by kernel_rfl) rfl ?_
  intro K hK
  go_wp2_with (first | (go_at_call 117; refine (num_any d.kind wA HD.out.hi).mono ?_; rintro e w1 ⟨rfl, hb1⟩))
  refine hK _ _ (HS.out.of_block (hb1.block _ hlt)) ?_
  clear hK K
  have H1 := Lib.hid (HB.out.trans (hb1.mono (by omega)))
  have hz1 := hb1.size
  clear hb1
  refine Till.tail _ rfl rfl (by kernel_rfl) (by kernel_rfl) ?_
  obtain ⟨L, hL⟩ : ∃ L, L = d.parts := ⟨_, rfl⟩
  have HL := Lib.hid hL
  have HLl := Lib.hid (show 4 = L.length by rw [hL]; rfl)
  have hLb : bytesOf L ≤ 8796093022208 := by
    have h9 := length_numB d.kind.toNat
    have := HD.out.key
    have := HD.out.value
    have := HD.out.ref
    rw [hL]
    simp [Dr.parts, bytesOf]
    omega
  have hsrc : SrcAt (w1.alloc (.cells #[txt (numB d.kind.toNat), txt d.key, txt d.value, txt d.ref] 9)) (some ⟨w1.heap.size, 0, none⟩) (scs L) := by
    have := src_new w1 (scs d.parts) 9
    rw [hL]
    exact this
  have HSR := Lib.hid hsrc
  clear hL hsrc
  go_wp2_with fail
  have hcall := list_any (some ⟨w1.heap.size, 0, none⟩) 4 L (w1.alloc (.cells #[txt (numB d.kind.toNat), txt d.key, txt d.value, txt d.ref] 9)) HSR.out (fun b off e => by cases e; simp) (by rw [← HLl.out]; omega) hLb
  rw [← HLl.out] at hcall
  refine hcall.mono ?_
  rintro e w3 ⟨rfl, hb3⟩
  have hbf : Below w.heap.size w w3 := (H1.out.alloc (by omega) _).trans (hb3.mono (by simp; omega))
  have htx : listB L = d.text := by rw [HL.out]; rfl
  rw [htx]
  obtain ⟨TT, hTT⟩ : ∃ TT, TT = d.text := ⟨_, rfl⟩
  rw [← hTT]
  have HTT := Lib.hid hTT
  clear hcall htx hTT
  go_wp2_with fail
  refine NoPanic.normal ?_
  go_wp2
  go_ret
  exact ⟨by rw [← HTT.out]; rfl, hbf⟩

set_option maxRecDepth 100000 in
set_option maxHeartbeats 4000000 in
theorem rdraft_any (d : Dr) (hd : d.Ok) (w : World) :
    Calls Tryz.prog 78 #[.agg d.cs.toArray] w fun e w' => e = .returned (txt d.text) ∧ Below w.heap.size w w' := by
  have HD := Lib.hid hd
  have hat : DrAt (w.alloc (.cells d.cs.toArray 44)) w.heap.size 0 d := by simpa [DrAt] using cellsAt_new w d.cs.toArray 44
  have HA := Lib.hid hat
  clear hat hd
  go_enter Tryz.func78, Tryz.ntmps78
  go_upto_region 1 with (first | (refine wpList_boxAgg rfl 44 _ rfl d.cs.toArray (by rfl) ?_))
  refine wp_region_noPanic ?_
  refine wp_region_till 10 (fun w' => DrAt w' w.heap.size 0 d) (by kernel_rfl) (by kernel_rfl) ?_
  obtain ⟨wA, hwA⟩ : ∃ wA, wA = (w.alloc (.cells d.cs.toArray 44)).drew := ⟨_, rfl⟩
  have hS : DrAt wA w.heap.size 0 d := by rw [hwA]; exact HA.out
  have hBA : Below w.heap.size w wA := by rw [hwA]; exact ((Below.refl _ w).alloc (Nat.le_refl _) _).drew
  have hlt : w.heap.size < wA.heap.size := by rw [hwA]; show _ < ((w.alloc _).heap.size); simp
  rw [← hwA]
  have HS := Lib.hid hS
  have HB := Lib.hid hBA
  clear hwA hS hBA
  refine Till.pure 0 rfl rfl (by kernel_rfl) (NoPanic.noFrame _) HS.out ?_
  go_big_quiet_step (fail)
  refine wpQuiet_nil ?_
  refine Till.load 1 3 _ ⟨w.heap.size, 0, none⟩ (.int .i64 d.kind) rfl rfl rfl rfl (by kernel_rfl) (NoPanic.noFrame _) HS.out (fun w' hw' => run_loadVar_one Tryz.underlying3 rfl (by simpa using hw'.kind)) ?_
  go_simp
  refine Till.pure 3 rfl rfl (by kernel_rfl) (NoPanic.noFrame _) HS.out ?_
  go_big_quiet_step (fail)
  refine wpQuiet_nil ?_
  refine Till.load 4 9 _ ⟨w.heap.size, 1, none⟩ (txt d.key) rfl rfl rfl rfl (by kernel_rfl) (NoPanic.noFrame _) HS.out (fun w' hw' => run_loadVar_one Tryz.underlying9 rfl (by simpa using hw'.key)) ?_
  go_simp
  refine Till.pure 5 rfl rfl (by kernel_rfl) (NoPanic.noFrame _) HS.out ?_
  go_big_quiet_step (fail)
  refine wpQuiet_nil ?_
  refine Till.load 6 9 _ ⟨w.heap.size, 2, none⟩ (txt d.value) rfl rfl rfl rfl (by kernel_rfl) (NoPanic.noFrame _) HS.out (fun w' hw' => run_loadVar_one Tryz.underlying9 rfl (by simpa using hw'.value)) ?_
  go_simp
  refine Till.pure 7 rfl rfl (by kernel_rfl) (NoPanic.noFrame _) HS.out ?_
  go_big_quiet_step (fail)
  refine wpQuiet_nil ?_
  refine Till.pure 8 rfl rfl (by kernel_rfl) (NoPanic.noFrame _) HS.out ?_
  go_big_quiet_step (fail)
  refine wpQuiet_nil ?_
  refine Till.bytes 9 108 9 _ 5 (some ⟨w.heap.size, 3, none⟩) d.ref 32 32 rfl rfl rfl Tryz.underlying108 Tryz.underlying5 Tryz.underlying9 (by rfl) HD.out.ref.symm (fun a e => by cases e; rfl) (by kernel_rfl) (NoPanic.noFrame _) HS.out (fun w' hw' => by simpa using hw'.ref) ?_
  go_simp
  refine Till.act 2 rfl rfl (by kernel_rfl) rfl ?_
  intro K hK
  go_wp2_with (first | (go_at_call 77; refine (rnum_any d.kind wA HD.out.hi).mono ?_; rintro e w1 ⟨rfl, hb1⟩))
  refine hK _ _ (HS.out.of_block (hb1.block _ hlt)) ?_
  clear hK K
  have H1 := Lib.hid (HB.out.trans (hb1.mono (by omega)))
  have hz1 := hb1.size
  clear hb1
  refine Till.tail _ rfl rfl (by kernel_rfl) (by kernel_rfl) ?_
  obtain ⟨L, hL⟩ : ∃ L, L = d.parts := ⟨_, rfl⟩
  have HL := Lib.hid hL
  have HLl := Lib.hid (show 4 = L.length by rw [hL]; rfl)
  have hLb : bytesOf L ≤ 8796093022208 := by
    have h9 := length_numB d.kind.toNat
    have := HD.out.key
    have := HD.out.value
    have := HD.out.ref
    rw [hL]
    simp [Dr.parts, bytesOf]
    omega
  have hsrc : SrcAt (w1.alloc (.cells #[txt (numB d.kind.toNat), txt d.key, txt d.value, txt d.ref] 9)) (some ⟨w1.heap.size, 0, none⟩) (scs L) := by
    have := src_new w1 (scs d.parts) 9
    rw [hL]
    exact this
  have HSR := Lib.hid hsrc
  clear hL hsrc
  go_wp2_with fail
  have hcall := rlist_any (some ⟨w1.heap.size, 0, none⟩) 4 L (w1.alloc (.cells #[txt (numB d.kind.toNat), txt d.key, txt d.value, txt d.ref] 9)) HSR.out (fun b off e => by cases e; simp) (by rw [← HLl.out]; omega) hLb
  rw [← HLl.out] at hcall
  refine hcall.mono ?_
  rintro e w3 ⟨rfl, hb3⟩
  have hbf : Below w.heap.size w w3 := (H1.out.alloc (by omega) _).trans (hb3.mono (by simp; omega))
  have htx : listB L = d.text := by rw [HL.out]; rfl
  rw [htx]
  obtain ⟨TT, hTT⟩ : ∃ TT, TT = d.text := ⟨_, rfl⟩
  rw [← hTT]
  have HTT := Lib.hid hTT
  clear hcall htx hTT
  go_wp2_with fail
  refine NoPanic.normal ?_
  go_wp2
  go_ret
  exact ⟨by rw [← HTT.out]; rfl, hbf⟩
end Go.Proofs.YtfoifdhcelcgiaaGreatDoor

/- AN OPERATION's TEXT BY BOTH. -/
namespace Go.Proofs.YtfoifdhcelcgiaaGreatDoor
open Go Go.RowKit

structure OpV where
  d : Dr
  author : Int
  depth : Int
  preds : List (List UInt8)
deriving DecidableEq

structure OpV.Ok (o : OpV) : Prop where
  d : o.d.Ok
  alo : -9223372036854775808 ≤ o.author
  ahi : o.author ≤ 9223372036854775807
  dlo : -9223372036854775808 ≤ o.depth
  dhi : o.depth ≤ 9223372036854775807
  ids : ∀ x ∈ o.preds, x.length = 32
  len : o.preds.length ≤ 1048576

def pcs (l : List (List UInt8)) : List Value := l.flatMap bcs
def OpV.cs (o : OpV) (p : Option Addr) (c : Nat) : List Value := o.d.cs ++ [.int .i64 o.author, .int .i64 o.depth, .slice p o.preds.length c]
def OpV.parts (o : OpV) : List (List UInt8) := [numB o.author.toNat, numB o.depth.toNat, o.preds.flatten, o.d.text]
def OpV.text (o : OpV) : List UInt8 := listB o.parts

theorem pcs_length {l : List (List UInt8)} (h : ∀ x ∈ l, x.length = 32) : (pcs l).length = 32 * l.length := by
  induction l with
  | nil => rfl
  | cons a l ih =>
    have h1 := h a (by simp)
    have h2 := ih fun x hx => h x (by simp [hx])
    simp only [pcs, List.flatMap_cons, List.length_append, bcs_length, List.length_cons] at h2 ⊢
    omega

theorem flatten_length {l : List (List UInt8)} (h : ∀ x ∈ l, x.length = 32) : l.flatten.length = 32 * l.length := by
  induction l with
  | nil => rfl
  | cons a l ih =>
    have h1 := h a (by simp)
    have h2 := ih fun x hx => h x (by simp [hx])
    simp only [List.flatten_cons, List.length_append, List.length_cons] at h2 ⊢
    omega

theorem pcs_at {l : List (List UInt8)} (h : ∀ x ∈ l, x.length = 32) {n j : Nat} {x : List UInt8} {u : Value} (hx : l[n]? = some x) (hu : (bcs x)[j]? = some u) : (pcs l)[32 * n + j]? = some u := by
  induction l generalizing n with
  | nil => simp at hx
  | cons a l ih =>
    have h1 := h a (by simp)
    cases n with
    | zero =>
      simp at hx
      subst hx
      simp only [pcs, List.flatMap_cons, Nat.mul_zero, Nat.zero_add]
      rw [List.getElem?_append_left (by have := (List.getElem?_eq_some_iff.1 hu).1; omega)]
      exact hu
    | succ n =>
      simp at hx
      have h2 := ih (fun x hx => h x (by simp [hx])) hx
      simp only [pcs, List.flatMap_cons]
      rw [List.getElem?_append_right (by rw [bcs_length, h1]; omega), bcs_length, h1, show 32 * (n + 1) + j - 32 = 32 * n + j by omega]
      exact h2

/-- one of the predecessors, where its cells lie -/
theorem pred_at {w : World} {p : Option Addr} {l : List (List UInt8)} (hs : SrcAt w p (pcs l)) (h : ∀ x ∈ l, x.length = 32) {n : Nat} (hn : n < l.length) :
    ∃ x g off, l[n]? = some x ∧ l.take (n + 1) = l.take n ++ [x] ∧ x.length = 32 ∧ p = some ⟨g, off, none⟩ ∧ cellsAt w g (off + n * 32) (bcs x) := by
  have hx : l[n]? = some l[n] := by simp [hn]
  have hl : l[n].length = 32 := h _ (List.getElem_mem hn)
  obtain ⟨g, off, hp, _⟩ := hs (32 * n + 0) _ (pcs_at h hx (show (bcs l[n])[0]? = some _ from bcs_get (by omega)))
  refine ⟨l[n], g, off, hx, by rw [List.take_add_one, hx]; rfl, hl, hp, fun j u hj => ?_⟩
  obtain ⟨g', off', hp', hc⟩ := hs (32 * n + j) u (pcs_at h hx hj)
  have := Option.some.inj (hp.symm.trans hp')
  simp only [Addr.mk.injEq] at this
  obtain ⟨rfl, rfl, _⟩ := this
  rw [Nat.add_assoc, Nat.mul_comm]
  exact hc

/-- a slice that came in: its cells; where there are none, its address is any -/
structure Src (w : World) (p : Option Addr) (cs : List Value) : Prop where
  at_ : SrcAt w p cs
theorem Src.lt {w : World} {p : Option Addr} {cs : List Value} (h : Src w p cs) (hne : cs ≠ []) : ∀ b off, p = some ⟨b, off, none⟩ → b < w.heap.size := fun b off e => by
  cases cs with
  | nil => exact absurd rfl hne
  | cons u r =>
    obtain ⟨b', off', e', hc⟩ := h.at_ 0 u rfl
    rw [e] at e'
    simp only [Option.some.injEq, Addr.mk.injEq, and_true] at e'
    rw [e'.1]
    exact World.block_lt_of_cell? w _ hc
theorem Src.spot {w : World} {p : Option Addr} {cs : List Value} (h : Src w p cs) (hne : cs ≠ []) : ∀ a, p = some a → a.spot = none := fun a e => by
  cases cs with
  | nil => exact absurd rfl hne
  | cons u r =>
    obtain ⟨b', off', e', hc⟩ := h.at_ 0 u rfl
    rw [e] at e'
    rw [Option.some.inj e']
theorem Src.of_blocks {w w' : World} {p : Option Addr} {cs : List Value} (h : Src w p cs) (_ : w.heap.size ≤ w'.heap.size) (hb : ∀ b off, p = some ⟨b, off, none⟩ → b < w.heap.size → cs ≠ [] → w'.heap[b]? = w.heap[b]?) : Src w' p cs :=
  ⟨fun j u hj => by
    obtain ⟨b, off, e, hc⟩ := h.at_ j u hj
    have hne : cs ≠ [] := fun e0 => by rw [e0] at hj; simp at hj
    refine ⟨b, off, e, ?_⟩
    exact (World.cell?_of_block (a := ⟨b, off + j, none⟩) (hb b off e (h.lt hne b off e) hne)).trans hc⟩
theorem Src.below {w w' : World} {B : Nat} {p : Option Addr} {cs : List Value} (h : Src w p cs) (hb : Below B w w') (hB : w.heap.size ≤ B) : Src w' p cs :=
  h.of_blocks hb.size (fun b _ _ hlt _ => hb.block b (by omega))
theorem cellsAt_lt {w : World} {g k : Nat} {cs : List Value} (h : cellsAt w g k cs) (hl : 0 < cs.length) : g < w.heap.size := by
  cases cs with
  | nil => simp at hl
  | cons u r => exact World.block_lt_of_cell? w _ (h 0 u rfl)
theorem bcs_at_lt {w : World} {g k : Nat} {x : List UInt8} (h : cellsAt w g k (bcs x)) (hl : x.length = 32) : g < w.heap.size := cellsAt_lt h (by rw [bcs_length]; omega)
theorem pcs_ne {l : List (List UInt8)} (h : pcs l ≠ []) : l ≠ [] := fun e => h (by rw [e]; rfl)

theorem opInfo : (Tryz.prog.info? 46).map (·.size) = some 38 := by kernel_rfl

theorem OpV.cs_length {o : OpV} (h : o.Ok) (p : Option Addr) (c : Nat) : (o.cs p c).length = 38 := by simp [OpV.cs, Dr.cs_length h.d]
theorem OpV.cs_d {o : OpV} {w : World} {b : Nat} {p : Option Addr} {c : Nat} (h : cellsAt w b 0 (o.cs p c)) : DrAt w b 0 o.d := fun j u hj => h j u (by
  unfold OpV.cs
  rw [List.getElem?_append_left (List.getElem?_eq_some_iff.1 hj).1]
  exact hj)
theorem OpV.cs_at {o : OpV} (hok : o.Ok) {w : World} {b : Nat} {p : Option Addr} {c : Nat} (h : cellsAt w b 0 (o.cs p c)) :
    w.cell? ⟨b, 35, none⟩ = some (.int .i64 o.author) ∧ w.cell? ⟨b, 36, none⟩ = some (.int .i64 o.depth) ∧ w.cell? ⟨b, 37, none⟩ = some (.slice p o.preds.length c) := by
  have e := Dr.cs_length hok.d
  have k : ∀ j u, [Value.int .i64 o.author, .int .i64 o.depth, .slice p o.preds.length c][j]? = some u → w.cell? ⟨b, 35 + j, none⟩ = some u := fun j u hj => by
    have := h (35 + j) u (by unfold OpV.cs; rw [List.getElem?_append_right (by omega), e, show 35 + j - 35 = j by omega]; exact hj)
    simpa using this
  exact ⟨k 0 _ rfl, k 1 _ rfl, k 2 _ rfl⟩

theorem fl_snoc (l : List (List UInt8)) (x : List UInt8) : (l ++ [x]).flatten = l.flatten ++ x := by simp

theorem Dr.text_len {d : Dr} (h : d.Ok) : d.text.length ≤ 2097400 := by
  have h1 := length_listB d.parts
  have h9 := length_numB d.kind.toNat
  have := h.key
  have := h.value
  have := h.ref
  simp only [Dr.parts, List.length_cons, List.length_nil, List.map_cons, List.map_nil, List.sum_cons, List.sum_nil] at h1
  unfold Dr.text Dr.parts
  omega

set_option maxRecDepth 100000 in
set_option maxHeartbeats 8000000 in
theorem optext_any (o : OpV) (ho : o.Ok) (p : Option Addr) (c : Nat) (w : World) (hs : Src w p (pcs o.preds)) :
    Calls Tryz.prog 83 #[.agg (o.cs p c).toArray] w fun e w' => e = .returned (txt o.text) ∧ Below w.heap.size w w' := by
  obtain ⟨i0, hi, hz0, hz1, hz2⟩ := info_parts u8Info
  obtain ⟨hz, hid⟩ := info_two idInfo
  have HZ := Lib.hid hz
  have HI := Lib.hid hid
  have HD := Lib.hid ho
  have HS := Lib.hid hs
  have hat : cellsAt (w.alloc (.cells (o.cs p c).toArray 46)) w.heap.size 0 (o.cs p c) := by simpa using cellsAt_new w (o.cs p c).toArray 46
  have HA := Lib.hid hat
  have h37 := (OpV.cs_at ho hat).2.2
  have H37 := Lib.hid h37
  have hn := ho.len
  clear hat ho hs h37 hz hid
  obtain ⟨w1, hw1⟩ : ∃ w1, w1 = w.alloc (.cells (o.cs p c).toArray 46) := ⟨_, rfl⟩
  go_enter Tryz.func83, Tryz.ntmps83
  go_upto_region 2 with (first | (refine wpList_boxAgg _ rfl 46 _ rfl (o.cs p c).toArray (by rfl) ?_))
  rw [← hw1] at HA H37 ⊢
  have hb1 : Below w.heap.size w w1 := by rw [hw1]; exact (Below.refl _ w).alloc (Nat.le_refl _) _
  have hlt : w.heap.size < w1.heap.size := by rw [hw1]; simp
  have HB1 := Lib.hid hb1
  have HS1 := Lib.hid (HS.out.below hb1 (Nat.le_refl _))
  clear hw1 hb1
  have hcell := H37.out
  go_wp2_with fail
  clear hcell
  go_loopw [3, 9] (fun b x wr => ∃ (n : Nat) (L : List UInt8), n ≤ o.preds.length ∧ x = .int .i64 n ∧ L.length = 32 * n ∧ Hid (L = (o.preds.take n).flatten) ∧ Hid (Owns wr w1.heap.size 5 1 b L.length (bcs L)) ∧ Hid (Below w1.heap.size w1 wr)) (fun _ x _ => o.preds.length - (intOf x).toNat)
  case atStart => exact ⟨0, [], by omega, rfl, rfl, Lib.hid rfl, Lib.hid (Owns.nil _ _ _ _), Lib.hid (Below.refl _ _)⟩
  case round =>
    obtain ⟨n, L, hn1, rfl, hlen, hL, hown, hbr⟩ := hrel
    have hszr := hbr.out.size
    by_cases hlt2 : n < o.preds.length
    · obtain ⟨x, g, off, hx1, hx2, hx3, rfl, hx4⟩ := pred_at HS1.out.at_ HD.out.ids hlt2
      have hg := bcs_at_lt hx4 hx3
      have hcx : cellsAt wr g (off + n * 32) (bcs x) := hx4.of_block (hbr.out.block _ hg)
      have HX := Lib.hid hcx
      have HX2 := Lib.hid hx2
      have HX3 := Lib.hid hx3
      have HZX := Lib.hid (show (fillB [] 32).size = (bcs x).toArray.size by rw [show (bcs x).toArray.size = (bcs x).length from rfl, bcs_length, hx3]; rfl)
      clear hx1 hx2 hx3 hx4 hcx
      go_wp2_with (first
        | (refine wpList_loadAgg _ rfl 31 _ rfl _ Tryz.underlying31 rfl g (off + n * 32) (by rfl) (bcs x) (by rw [HI.out, bcs_length, HX3.out]) HX.out ?_)
        | (refine wpList_allocZ _ rfl 31 rfl _ HZ.out ?_)
        | (refine wpList_storeNew _ wr rfl 31 _ _ rfl (fillB [] 32) rfl (by rfl) (bcs x).toArray (by rfl) (by rw [HI.out, List.size_toArray, bcs_length, HX3.out]) HZX.out (by simpa using bcs_one x) ?_)
        | (refine wpList_append_G rfl _ _ 108 rfl w1.heap.size 5 i0 _ 1 1 Tryz.underlying108 hi hz0 hz1 hz2 (by rfl) (by omega) u3 L.length (bcs L) (by rfl) (hown.out.alloc _) (some ⟨wr.heap.size, 0, none⟩) 32 32 (bcs x) (by rfl) (by rw [bcs_length, HX3.out]) (src_new wr (bcs x) 31) (fun a e => by cases e; rfl) (bcs_one x) (by unfold maxLen; omega) (by omega) (by rw [World.size_alloc]; omega) ?_; intro v4 w4 hown4 hg4 hs4))
      have hb4 : Below w1.heap.size w1 w4 := below_grown (hbr.out.alloc hszr _) hg4 (hown.out.alloc _) (by simp; omega)
      rw [← bcs_append] at hown4
      have hl4 : L.length + 32 = (L ++ x).length := by rw [List.length_append, HX3.out]
      rw [hl4] at hown4
      go_roundw
      case rel => exact ⟨n + 1, L ++ x, by omega, by go_num, by omega, Lib.hid (by rw [HX2.out, fl_snoc, hL.out]), Lib.hid hown4, Lib.hid hb4⟩
      case measure => simp [intOf] <;> omega
    · obtain rfl : n = o.preds.length := by omega
      obtain ⟨A, capv, rfl⟩ := hown.out.form
      have hbl := hbr.out
      have HW := Lib.hid (HA.out.of_block (hbl.block _ hlt))
      go_upto_region 7 with fail
      refine wp_region_noPanic ?_
      refine wp_region_till 11 (fun w' => cellsAt w' w.heap.size 0 (o.cs p c) ∧ SrcAt w' A (bcs L)) (by kernel_rfl) (by kernel_rfl) ?_
      obtain ⟨wA, hwA⟩ : ∃ wA, wA = wr.drew := ⟨_, rfl⟩
      have hSA : cellsAt wA w.heap.size 0 (o.cs p c) ∧ SrcAt wA A (bcs L) := by rw [hwA]; exact ⟨HW.out, hown.out.src⟩
      have hBA : Below w1.heap.size w1 wA := by rw [hwA]; exact hbr.out.drew
      have hzA : wr.heap.size ≤ wA.heap.size := by rw [hwA]; exact Nat.le_refl _
      have hAlt : ∀ b off, A = some ⟨b, off, none⟩ → b < wr.heap.size := fun b off e => (hown.out.at e).2.1
      have SB := Lib.hid (show ∀ wx wy : World, Below wx.heap.size wx wy → (cellsAt wx w.heap.size 0 (o.cs p c) ∧ SrcAt wx A (bcs L)) → wr.heap.size ≤ wx.heap.size → cellsAt wy w.heap.size 0 (o.cs p c) ∧ SrcAt wy A (bcs L) from
        fun wx wy hb h hz => ⟨h.1.of_block (hb.block _ (by omega)), h.2.below (fun b off e => Nat.lt_of_lt_of_le (hAlt b off e) hz) hb⟩)
      rw [← hwA]
      have HSA := Lib.hid hSA
      have HBA' := Lib.hid (HB1.out.trans (hBA.mono (by omega)))
      have HLEN := Lib.hid hlen
      clear hlen
      clear hwA hSA hBA hAlt
      refine Till.pure 0 rfl rfl (by kernel_rfl) (NoPanic.noFrame _) HSA.out ?_
      go_big_quiet_step (fail)
      refine wpQuiet_nil ?_
      refine Till.load 1 3 _ ⟨w.heap.size, 35, none⟩ (.int .i64 o.author) rfl rfl rfl rfl (by kernel_rfl) (NoPanic.noFrame _) HSA.out (fun w' hw' => run_loadVar_one Tryz.underlying3 rfl (OpV.cs_at HD.out hw'.1).1) ?_
      go_simp
      refine Till.pure 3 rfl rfl (by kernel_rfl) (NoPanic.noFrame _) HSA.out ?_
      go_big_quiet_step (fail)
      refine wpQuiet_nil ?_
      refine Till.load 4 3 _ ⟨w.heap.size, 36, none⟩ (.int .i64 o.depth) rfl rfl rfl rfl (by kernel_rfl) (NoPanic.noFrame _) HSA.out (fun w' hw' => run_loadVar_one Tryz.underlying3 rfl (OpV.cs_at HD.out hw'.1).2.1) ?_
      go_simp
      refine Till.pure 6 rfl rfl (by kernel_rfl) (NoPanic.noFrame _) HSA.out ?_
      go_big_quiet_step (fail)
      refine wpQuiet_nil ?_
      refine Till.bytes 7 108 9 _ 5 A L L.length capv rfl rfl rfl Tryz.underlying108 Tryz.underlying5 Tryz.underlying9 (by rfl) rfl hown.out.spot (by kernel_rfl) (NoPanic.noFrame _) HSA.out (fun w' hw' => hw'.2) ?_
      go_simp
      refine Till.pure 8 rfl rfl (by kernel_rfl) (NoPanic.noFrame _) HSA.out ?_
      go_big_quiet_step (fail)
      refine wpQuiet_nil ?_
      refine Till.load 9 44 _ ⟨w.heap.size, 0, none⟩ (.agg o.d.cs.toArray) rfl rfl rfl rfl (by kernel_rfl) (NoPanic.noFrame _) HSA.out (fun w' hw' => run_loadAgg Tryz.underlying44 rfl (by rw [draftInfo, Dr.cs_length HD.out.d]) (OpV.cs_d hw'.1)) ?_
      go_simp
      refine Till.act 2 rfl rfl (by kernel_rfl) rfl ?_
      intro K hK
      go_wp2_with (first | (go_at_call 117; refine (num_any o.author wA HD.out.ahi).mono ?_; rintro e w2 ⟨rfl, hb1⟩))
      have hz1 := hb1.size
      have HS1 := Lib.hid (SB.out wA w2 hb1 HSA.out hzA)
      refine hK _ _ HS1.out ?_
      clear hK K
      have HB1' := Lib.hid (HBA'.out.trans (hb1.mono (by omega)))
      clear hb1
      refine Till.act 5 rfl rfl (by kernel_rfl) rfl ?_
      intro K hK
      go_wp2_with (first | (go_at_call 117; refine (num_any o.depth w2 HD.out.dhi).mono ?_; rintro e w3 ⟨rfl, hb2⟩))
      have hz2 := hb2.size
      have HS2 := Lib.hid (SB.out w2 w3 hb2 HS1.out (by omega))
      refine hK _ _ HS2.out ?_
      clear hK K
      have HB2' := Lib.hid (HB1'.out.trans (hb2.mono (by omega)))
      clear hb2
      refine Till.act 10 rfl rfl (by kernel_rfl) rfl ?_
      intro K hK
      go_wp2_with (first | (go_at_call 118; refine (draft_any o.d HD.out.d w3).mono ?_; rintro e w4 ⟨rfl, hb3⟩))
      have hz3 := hb3.size
      have HS3 := Lib.hid (SB.out w3 w4 hb3 HS2.out (by omega))
      refine hK _ _ HS3.out ?_
      clear hK K
      have HB3' := Lib.hid (HB2'.out.trans (hb3.mono (by omega)))
      clear hb3
      refine Till.tail _ rfl rfl (by kernel_rfl) (by kernel_rfl) ?_
      obtain ⟨LL, hLL⟩ : ∃ LL, LL = o.parts := ⟨_, rfl⟩
      have hfl : L = o.preds.flatten := by rw [hL.out, List.take_length]
      have HLL := Lib.hid hLL
      have HL4 := Lib.hid (show 4 = LL.length by rw [hLL]; rfl)
      have hLb : bytesOf LL ≤ 8796093022208 := by
        have h9 := length_numB o.author.toNat
        have h8 := length_numB o.depth.toNat
        have h7 := Dr.text_len HD.out.d
        rw [hLL]
        simp only [OpV.parts, bytesOf, List.map_cons, List.map_nil, List.sum_cons, List.sum_nil]
        rw [← hfl]
        have := HLEN.out
        omega
      have hsrc : SrcAt (w4.alloc (.cells #[txt (numB o.author.toNat), txt (numB o.depth.toNat), txt L, txt o.d.text] 9)) (some ⟨w4.heap.size, 0, none⟩) (scs LL) := by
        have := src_new w4 (scs o.parts) 9
        rw [hLL, hfl]
        exact this
      have HSR := Lib.hid hsrc
      clear hLL hsrc hfl
      go_wp2_with fail
      have hcall := list_any (some ⟨w4.heap.size, 0, none⟩) 4 LL (w4.alloc (.cells #[txt (numB o.author.toNat), txt (numB o.depth.toNat), txt L, txt o.d.text] 9)) HSR.out (fun b off e => by cases e; simp) (by rw [← HL4.out]; omega) hLb
      rw [← HL4.out] at hcall
      refine hcall.mono ?_
      rintro e w5 ⟨rfl, hb5⟩
      have hbf : Below w.heap.size w w5 := (HB3'.out.alloc (by omega) _).trans (hb5.mono (by simp; omega))
      have htx : listB LL = o.text := by rw [HLL.out]; rfl
      rw [htx]
      obtain ⟨TT, hTT⟩ : ∃ TT, TT = o.text := ⟨_, rfl⟩
      rw [← hTT]
      have HTT := Lib.hid hTT
      clear hcall htx hTT
      go_wp2_with fail
      refine NoPanic.normal ?_
      go_wp2
      go_ret
      exact ⟨by rw [← HTT.out]; rfl, hbf⟩
end Go.Proofs.YtfoifdhcelcgiaaGreatDoor

/- AN OPERATION's TEXT BY THE DOCUMENT. -/
namespace Go.Proofs.YtfoifdhcelcgiaaGreatDoor
open Go Go.RowKit

set_option maxRecDepth 100000 in
set_option maxHeartbeats 8000000 in
theorem roptext_any (o : OpV) (ho : o.Ok) (p : Option Addr) (c : Nat) (w : World) (hs : Src w p (pcs o.preds)) :
    Calls Tryz.prog 46 #[.agg (o.cs p c).toArray] w fun e w' => e = .returned (txt o.text) ∧ Below w.heap.size w w' := by
  obtain ⟨i0, hi, hz0, hz1, hz2⟩ := info_parts u8Info
  obtain ⟨hz, hid⟩ := info_two idInfo
  have HZ := Lib.hid hz
  have HI := Lib.hid hid
  have HD := Lib.hid ho
  have HS := Lib.hid hs
  have hat : cellsAt (w.alloc (.cells (o.cs p c).toArray 46)) w.heap.size 0 (o.cs p c) := by simpa using cellsAt_new w (o.cs p c).toArray 46
  have HA := Lib.hid hat
  have h37 := (OpV.cs_at ho hat).2.2
  have H37 := Lib.hid h37
  have hn := ho.len
  clear hat ho hs h37 hz hid
  obtain ⟨w1, hw1⟩ : ∃ w1, w1 = w.alloc (.cells (o.cs p c).toArray 46) := ⟨_, rfl⟩
  go_enter Tryz.func46, Tryz.ntmps46
  go_upto_region 2 with (first | (refine wpList_boxAgg _ rfl 46 _ rfl (o.cs p c).toArray (by rfl) ?_))
  rw [← hw1] at HA H37 ⊢
  have hb1 : Below w.heap.size w w1 := by rw [hw1]; exact (Below.refl _ w).alloc (Nat.le_refl _) _
  have hlt : w.heap.size < w1.heap.size := by rw [hw1]; simp
  have HB1 := Lib.hid hb1
  have HS1 := Lib.hid (HS.out.below hb1 (Nat.le_refl _))
  clear hw1 hb1
  have hcell := H37.out
  go_wp2_with fail
  clear hcell
  go_loopw [3, 9] (fun b x wr => ∃ (n : Nat) (L : List UInt8), n ≤ o.preds.length ∧ x = .int .i64 n ∧ Hid (L.length = 32 * n) ∧ Hid (L = (o.preds.take n).flatten) ∧ b = txt L ∧ Hid (Below w1.heap.size w1 wr)) (fun _ x _ => o.preds.length - (intOf x).toNat)
  case atStart => exact ⟨0, [], by omega, rfl, Lib.hid rfl, Lib.hid rfl, rfl, Lib.hid (Below.refl _ _)⟩
  case round =>
    obtain ⟨n, L, hn1, rfl, hlen, hL, rfl, hbr⟩ := hrel
    have hszr := hbr.out.size
    by_cases hlt2 : n < o.preds.length
    · obtain ⟨x, g, off, hx1, hx2, hx3, rfl, hx4⟩ := pred_at HS1.out.at_ HD.out.ids hlt2
      have hg := bcs_at_lt hx4 hx3
      have hcx : cellsAt wr g (off + n * 32) (bcs x) := hx4.of_block (hbr.out.block _ hg)
      have HX := Lib.hid hcx
      have HX2 := Lib.hid hx2
      have HX3 := Lib.hid hx3
      have HZX := Lib.hid (show (fillB [] 32).size = (bcs x).toArray.size by rw [show (bcs x).toArray.size = (bcs x).length from rfl, bcs_length, hx3]; rfl)
      clear hx1 hx2 hx3 hx4 hcx
      go_wp2_with (first
        | (refine wpList_loadAgg _ rfl 31 _ rfl _ Tryz.underlying31 rfl g (off + n * 32) (by rfl) (bcs x) (by rw [HI.out, bcs_length, HX3.out]) HX.out ?_)
        | (refine wpList_allocZ _ rfl 31 rfl _ HZ.out ?_)
        | (refine wpList_storeNew _ wr rfl 31 _ _ rfl (fillB [] 32) rfl (by rfl) (bcs x).toArray (by rfl) (by rw [HI.out, List.size_toArray, bcs_length, HX3.out]) HZX.out (by simpa using bcs_one x) ?_)
        | (refine wpList_bytes_txt rfl _ _ _ rfl 5 Tryz.underlying108 Tryz.underlying5 Tryz.underlying9 (some ⟨wr.heap.size, 0, none⟩) x 32 32 (by rfl) HX3.out.symm (src_new wr (bcs x) 31) (fun a e => by cases e; rfl) ?_)
        | (refine wpList_cat rfl _ _ _ _ rfl L x (by rfl) (by rfl) (by have := hlen.out; have := HX3.out; omega) ?_))
      have hb4 : Below w1.heap.size w1 (wr.alloc (.cells (bcs x).toArray 31)) := hbr.out.alloc hszr _
      have hl4 : (L ++ x).length = 32 * (n + 1) := by rw [List.length_append, HX3.out, hlen.out]; omega
      have HL4 := Lib.hid hl4
      clear hl4
      go_roundw
      case rel => exact ⟨n + 1, L ++ x, by omega, by go_num, Lib.hid HL4.out, Lib.hid (by rw [HX2.out, fl_snoc, hL.out]), rfl, Lib.hid hb4⟩
      case measure => simp [intOf] <;> omega
    · obtain rfl : n = o.preds.length := by omega
      have hbl := hbr.out
      have HW := Lib.hid (HA.out.of_block (hbl.block _ hlt))
      go_upto_region 7 with fail
      refine wp_region_noPanic ?_
      refine wp_region_till 10 (fun w' => cellsAt w' w.heap.size 0 (o.cs p c)) (by kernel_rfl) (by kernel_rfl) ?_
      obtain ⟨wA, hwA⟩ : ∃ wA, wA = wr.drew := ⟨_, rfl⟩
      have hSA : cellsAt wA w.heap.size 0 (o.cs p c) := by rw [hwA]; exact HW.out
      have hBA : Below w1.heap.size w1 wA := by rw [hwA]; exact hbr.out.drew
      have hzA : wr.heap.size ≤ wA.heap.size := by rw [hwA]; exact Nat.le_refl _
      have SB := Lib.hid (show ∀ wx wy : World, Below wx.heap.size wx wy → cellsAt wx w.heap.size 0 (o.cs p c) → wr.heap.size ≤ wx.heap.size → cellsAt wy w.heap.size 0 (o.cs p c) from
        fun wx wy hb h hz => h.of_block (hb.block _ (by omega)))
      rw [← hwA]
      have HSA := Lib.hid hSA
      have HBA' := Lib.hid (HB1.out.trans (hBA.mono (by omega)))
      clear hwA hSA hBA
      refine Till.pure 0 rfl rfl (by kernel_rfl) (NoPanic.noFrame _) HSA.out ?_
      go_big_quiet_step (fail)
      refine wpQuiet_nil ?_
      refine Till.load 1 3 _ ⟨w.heap.size, 35, none⟩ (.int .i64 o.author) rfl rfl rfl rfl (by kernel_rfl) (NoPanic.noFrame _) HSA.out (fun w' hw' => run_loadVar_one Tryz.underlying3 rfl (OpV.cs_at HD.out hw').1) ?_
      go_simp
      refine Till.pure 3 rfl rfl (by kernel_rfl) (NoPanic.noFrame _) HSA.out ?_
      go_big_quiet_step (fail)
      refine wpQuiet_nil ?_
      refine Till.load 4 3 _ ⟨w.heap.size, 36, none⟩ (.int .i64 o.depth) rfl rfl rfl rfl (by kernel_rfl) (NoPanic.noFrame _) HSA.out (fun w' hw' => run_loadVar_one Tryz.underlying3 rfl (OpV.cs_at HD.out hw').2.1) ?_
      go_simp
      refine Till.pure 6 rfl rfl (by kernel_rfl) (NoPanic.noFrame _) HSA.out ?_
      go_big_quiet_step (fail)
      refine wpQuiet_nil ?_
      refine Till.pure 7 rfl rfl (by kernel_rfl) (NoPanic.noFrame _) HSA.out ?_
      go_big_quiet_step (fail)
      refine wpQuiet_nil ?_
      refine Till.load 8 44 _ ⟨w.heap.size, 0, none⟩ (.agg o.d.cs.toArray) rfl rfl rfl rfl (by kernel_rfl) (NoPanic.noFrame _) HSA.out (fun w' hw' => run_loadAgg Tryz.underlying44 rfl (by rw [draftInfo, Dr.cs_length HD.out.d]) (OpV.cs_d hw')) ?_
      go_simp
      refine Till.act 2 rfl rfl (by kernel_rfl) rfl ?_
      intro K hK
      go_wp2_with (first | (go_at_call 77; refine (rnum_any o.author wA HD.out.ahi).mono ?_; rintro e w2 ⟨rfl, hb1⟩))
      have hz1 := hb1.size
      have HS1 := Lib.hid (SB.out wA w2 hb1 HSA.out hzA)
      refine hK _ _ HS1.out ?_
      clear hK K
      have HB1' := Lib.hid (HBA'.out.trans (hb1.mono (by omega)))
      clear hb1
      refine Till.act 5 rfl rfl (by kernel_rfl) rfl ?_
      intro K hK
      go_wp2_with (first | (go_at_call 77; refine (rnum_any o.depth w2 HD.out.dhi).mono ?_; rintro e w3 ⟨rfl, hb2⟩))
      have hz2 := hb2.size
      have HS2 := Lib.hid (SB.out w2 w3 hb2 HS1.out (by omega))
      refine hK _ _ HS2.out ?_
      clear hK K
      have HB2' := Lib.hid (HB1'.out.trans (hb2.mono (by omega)))
      clear hb2
      refine Till.act 9 rfl rfl (by kernel_rfl) rfl ?_
      intro K hK
      go_wp2_with (first | (go_at_call 78; refine (rdraft_any o.d HD.out.d w3).mono ?_; rintro e w4 ⟨rfl, hb3⟩))
      have hz3 := hb3.size
      have HS3 := Lib.hid (SB.out w3 w4 hb3 HS2.out (by omega))
      refine hK _ _ HS3.out ?_
      clear hK K
      have HB3' := Lib.hid (HB2'.out.trans (hb3.mono (by omega)))
      clear hb3
      refine Till.tail _ rfl rfl (by kernel_rfl) (by kernel_rfl) ?_
      obtain ⟨LL, hLL⟩ : ∃ LL, LL = o.parts := ⟨_, rfl⟩
      have hfl : L = o.preds.flatten := by rw [hL.out, List.take_length]
      have HLL := Lib.hid hLL
      have HL4 := Lib.hid (show 4 = LL.length by rw [hLL]; rfl)
      have hLb : bytesOf LL ≤ 8796093022208 := by
        have h9 := length_numB o.author.toNat
        have h8 := length_numB o.depth.toNat
        have h7 := Dr.text_len HD.out.d
        rw [hLL]
        simp only [OpV.parts, bytesOf, List.map_cons, List.map_nil, List.sum_cons, List.sum_nil]
        rw [← hfl]
        have := hlen.out
        omega
      have hsrc : SrcAt (w4.alloc (.cells #[txt (numB o.author.toNat), txt (numB o.depth.toNat), txt L, txt o.d.text] 9)) (some ⟨w4.heap.size, 0, none⟩) (scs LL) := by
        have := src_new w4 (scs o.parts) 9
        rw [hLL, hfl]
        exact this
      have HSR := Lib.hid hsrc
      clear hLL hsrc hfl
      go_wp2_with fail
      have hcall := rlist_any (some ⟨w4.heap.size, 0, none⟩) 4 LL (w4.alloc (.cells #[txt (numB o.author.toNat), txt (numB o.depth.toNat), txt L, txt o.d.text] 9)) HSR.out (fun b off e => by cases e; simp) (by rw [← HL4.out]; omega) hLb
      rw [← HL4.out] at hcall
      refine hcall.mono ?_
      rintro e w5 ⟨rfl, hb5⟩
      have hbf : Below w.heap.size w w5 := (HB3'.out.alloc (by omega) _).trans (hb5.mono (by simp; omega))
      have htx : listB LL = o.text := by rw [HLL.out]; rfl
      rw [htx]
      obtain ⟨TT, hTT⟩ : ∃ TT, TT = o.text := ⟨_, rfl⟩
      rw [← hTT]
      have HTT := Lib.hid hTT
      clear hcall htx hTT
      go_wp2_with fail
      refine NoPanic.normal ?_
      go_wp2
      go_ret
      exact ⟨by rw [← HTT.out]; rfl, hbf⟩
end Go.Proofs.YtfoifdhcelcgiaaGreatDoor

/- AN OPERATION's NAME. -/
namespace Go.Proofs.YtfoifdhcelcgiaaGreatDoor
open Go Go.RowKit

def nameB (o : OpV) : List UInt8 := sumB [111, 112] [o.text]
theorem length_nameB (o : OpV) : (nameB o).length = 32 := rfl

theorem OpV.text_len {o : OpV} (h : o.Ok) : o.text.length ≤ 40000000 := by
  have h1 := length_listB o.parts
  have h9 := length_numB o.author.toNat
  have h8 := length_numB o.depth.toNat
  have h7 := Dr.text_len h.d
  have h6 := flatten_length h.ids
  have h5 := h.len
  simp only [OpV.parts, List.length_cons, List.length_nil, List.map_cons, List.map_nil, List.sum_cons, List.sum_nil] at h1
  unfold OpV.text OpV.parts
  omega

set_option maxRecDepth 100000 in
set_option maxHeartbeats 8000000 in
theorem opname_any (o : OpV) (ho : o.Ok) (p : Option Addr) (c : Nat) (w : World) (hT : Tabs w) (hs : Src w p (pcs o.preds)) :
    Calls Tryz.prog 53 #[.agg (o.cs p c).toArray] w fun e w' => e = .returned (.agg (bcs (nameB o)).toArray) ∧ Below w.heap.size w w' := by
  obtain ⟨hz, hid⟩ := info_two idInfo
  have HZ := Lib.hid hz
  have HI := Lib.hid hid
  have HD := Lib.hid ho
  have HS := Lib.hid hs
  have HT := Lib.hid hT
  have HC := Lib.hid (OpV.cs_length ho p c)
  have hat : cellsAt (w.alloc (.cells (o.cs p c).toArray 46)) w.heap.size 0 (o.cs p c) := by simpa using cellsAt_new w (o.cs p c).toArray 46
  obtain ⟨w1, hw1⟩ : ∃ w1, w1 = (w.alloc (.cells (o.cs p c).toArray 46)).alloc (.cells (fillB [] 32) 31) := ⟨_, rfl⟩
  have hb1 : Below w.heap.size w w1 := by rw [hw1]; exact ((Below.refl _ w).alloc (Nat.le_refl _) _).alloc (by simp) _
  have hd1 : w1.heap[w.heap.size + 1]? = some (.cells (fillB [] 32) 31 (0, 0)) := by rw [hw1]; exact heap_alloc2 _ _ _
  have ha1 : cellsAt w1 w.heap.size 0 (o.cs p c) := hat.of_block (by rw [hw1]; exact (MapKept.heap_alloc _ _).2 _ (by simp))
  have hz1 : w1.heap.size = w.heap.size + 2 := by rw [hw1]; simp
  have HA := Lib.hid ha1
  have HB := Lib.hid hb1
  have HDD := Lib.hid hd1
  clear ho hs hT hat hb1 hd1 ha1 hz hid
  go_enter Tryz.func53, Tryz.ntmps53
  go_upto_region 1 with (first
    | (refine wpList_boxAgg _ rfl 46 _ rfl (o.cs p c).toArray (by rfl) ?_)
    | (refine wpList_allocZ _ rfl 31 rfl _ HZ.out ?_))
  rw [show (w.alloc (.cells (o.cs p c).toArray 46)).alloc (.cells (Value.agg (fillB [] 32)).cells 31) = w1 from hw1.symm]
  clear hw1
  go_wp2_with (first
    | (refine wpList_loadAgg _ rfl 46 _ rfl _ Tryz.underlying46 rfl w.heap.size 0 (by rfl) (o.cs p c) (by rw [opInfo, HC.out]) HA.out ?_))
  refine (optext_any o HD.out p c w1 (HS.out.below HB.out (Nat.le_refl _))).mono ?_
  rintro e w2 ⟨rfl, hb2⟩
  have hz2 := hb2.size
  obtain ⟨T, hT⟩ : ∃ T, T = o.text := ⟨_, rfl⟩
  rw [← hT]
  have hTl : T.length ≤ 40000000 := by rw [hT]; exact OpV.text_len HD.out
  obtain ⟨w3, hw3⟩ : ∃ w3, w3 = w2.alloc (.cells #[txt T] 9) := ⟨_, rfl⟩
  have hb3 : Below w.heap.size w w3 := by rw [hw3]; exact (HB.out.trans (hb2.mono (by omega))).alloc (by omega) _
  have hs3 : SrcAt w3 (some ⟨w2.heap.size, 0, none⟩) (scs [T]) := by rw [hw3]; exact src_new w2 (scs [T]) 9
  have hd3 : w3.heap[w.heap.size + 1]? = some (.cells (fillB [] 32) 31 (0, 0)) := by
    rw [hw3]
    exact ((MapKept.heap_alloc _ _).2 _ (by omega)).trans ((hb2.block _ (by omega)).trans HDD.out)
  have hz3 : w3.heap.size = w2.heap.size + 1 := by rw [hw3]; simp
  have HTX := Lib.hid hT
  have HB3 := Lib.hid hb3
  have HS3 := Lib.hid hs3
  have HD3 := Lib.hid hd3
  have HW3 := Lib.hid hw3
  clear hb3 hs3 hd3 hT hw3 hb2
  go_wp2_with fail
  rw [← HW3.out]
  refine (sum_any [111, 112] (some ⟨w2.heap.size, 0, none⟩) 1 [T] w3 (HT.out.of_below HB3.out HT.out.2.2) HS3.out (fun b off e => by cases e; omega) (fun a e => by cases e; rfl) (by simp) (by simp) (by simp [bytesOf]; omega)).mono ?_
  rintro e w4 ⟨rfl, hb4⟩
  have hz4 := hb4.size
  obtain ⟨D, hD⟩ : ∃ D, D = sumB [111, 112] [T] := ⟨_, rfl⟩
  rw [← hD]
  have T7 := Lib.hid (show (bcs D).length = 32 by rw [hD, bcs_length, length_sumB])
  have T6 := Lib.hid ((hb4.block _ (by omega)).trans HD3.out)
  have T5 := Lib.hid (HB3.out.trans (hb4.mono (by omega)))
  have HDX := Lib.hid hD
  clear hD hb4
  go_wp2_with (first
    | (refine wpList_storeRow rfl 31 _ _ rfl T6.out (by rfl) (bcs D).toArray (by rfl) (by rw [HI.out, List.size_toArray, T7.out]) (by show 32 = (bcs D).length; exact T7.out.symm) (by simpa using bcs_one D) ?_; intro w6 hw6 hg6 hs6))
  have hcf : cellsAt w6 (w.heap.size + 1) 0 (bcs D) := fun j u hj => by rw [cell_of_row _ _ _ _ _ _ hw6, Nat.zero_add]; simpa using hj
  have hbf : Below w.heap.size w w6 := T5.out.grown hg6 (by have := T5.out.size; omega) (fun k e => by have := Option.some.inj e; omega)
  have hfin : D = nameB o := by rw [HDX.out, HTX.out]; rfl
  refine bodyPost_ret (results_cell rfl (by rfl) (run_loadAgg Tryz.underlying31 rfl (by rw [HI.out, T7.out]) hcf)) rfl ⟨by rw [hfin], hbf⟩
end Go.Proofs.YtfoifdhcelcgiaaGreatDoor

/- NAMES AND DRAFTS AS KEYS: equality. -/
namespace Go.Proofs.YtfoifdhcelcgiaaGreatDoor
open Go Go.RowKit

abbrev idv (x : List UInt8) : Value := .agg (bcs x).toArray
abbrev drv (d : Dr) : Value := .agg d.cs.toArray

theorem idv_inj {x y : List UInt8} (h : idv x = idv y) : x = y := by
  have h1 : (bcs x).toArray = (bcs y).toArray := by injection h
  have h2 : bcs x = bcs y := by simpa using h1
  have h3 : ∀ a b : UInt8, bv a = bv b → a = b := fun a b e => by
    injection e with _ e
    exact UInt8.toNat_inj.1 (by omega)
  clear h h1
  induction x generalizing y with
  | nil => cases y with
    | nil => rfl
    | cons b y => simp [bcs] at h2
  | cons a x ih => cases y with
    | nil => simp [bcs] at h2
    | cons b y =>
      simp only [bcs, List.map_cons, List.cons.injEq] at h2
      rw [h3 _ _ h2.1, ih h2.2]

theorem drv_inj {d e : Dr} (h : drv d = drv e) : d = e := by
  have h1 : d.cs.toArray = e.cs.toArray := by injection h
  have h2 : d.cs = e.cs := by simpa using h1
  simp only [Dr.cs, List.cons.injEq] at h2
  obtain ⟨e1, e2, e3, e4⟩ := h2
  have e1 : d.kind = e.kind := by injection e1
  have e2 := txt_inj e2
  have e3 := txt_inj e3
  have e4 : d.ref = e.ref := idv_inj (congrArg (fun l : List Value => Value.agg l.toArray) e4)
  cases d; cases e
  simp_all

theorem laidOut : laidOutB Tryz.prog = true := by kernel_rfl
theorem idRow : 31 < Tryz.prog.types.size := of_decide_eq_true (by kernel_rfl)
theorem drRow : 44 < Tryz.prog.types.size := of_decide_eq_true (by kernel_rfl)
theorem idKeyT : Tryz.prog.keyTypeAt 2 31 = true := by kernel_rfl
theorem drKeyT : Tryz.prog.keyTypeAt 3 44 = true := by kernel_rfl
theorem idWide : (match Tryz.prog.underlying 31 with | some (.array _ _) | some (.struct _) => true | _ => false) = true := by kernel_rfl
theorem drWide : (match Tryz.prog.underlying 44 with | some (.array _ _) | some (.struct _) => true | _ => false) = true := by kernel_rfl
set_option maxRecDepth 100000 in
theorem idKeyLaw : WideMaps.KeyLaw Tryz.prog 31 := deep_law_laid laidOut (m := 2) (by omega) idRow idKeyT idWide
theorem idLaw : Maps.Keyed Tryz.prog 31 := Maps.Keyed.of_law idKeyLaw
set_option maxRecDepth 100000 in
theorem drKeyLaw : WideMaps.KeyLaw Tryz.prog 44 := deep_law_laid laidOut (m := 3) (by omega) drRow drKeyT drWide

theorem mapM_some {α β : Type} {f : α → Option β} : ∀ {l : List α}, (∀ x ∈ l, ∃ y, f x = some y) → ∃ ys, l.mapM f = some ys
  | [], _ => ⟨[], rfl⟩
  | a :: l, h => by
    obtain ⟨y, hy⟩ := h a (by simp)
    obtain ⟨ys, hys⟩ := mapM_some (l := l) fun x hx => h x (by simp [hx])
    exact ⟨y :: ys, by simp [List.mapM_cons, hy, hys]⟩

theorem id_lits (m : Nat) (x : List UInt8) (hx : x.length = 32) : ∃ L, Tryz.prog.keyLits (m + 2) 31 (bcs x) = some L := by
  have k2 : Tryz.prog.cellsOf 31 = 32 := by kernel_rfl
  have k3 : Tryz.prog.cellsOf 5 = 1 := by kernel_rfl
  unfold Program.keyLits
  simp only [Tryz.underlying31]
  rw [if_pos (by rw [k2, bcs_length, hx])]
  obtain ⟨ys, hys⟩ := mapM_some (f := fun i => Tryz.prog.keyLits (m + 1) 5 (((bcs x).drop (i * Tryz.prog.cellsOf 5)).take (Tryz.prog.cellsOf 5))) (l := List.range 32) (fun i hi => by
    have hi : i < 32 := List.mem_range.1 hi
    obtain ⟨c, hc, _⟩ := byte_at (l := x) (j := i) (by omega)
    have e : ((bcs x).drop (i * Tryz.prog.cellsOf 5)).take (Tryz.prog.cellsOf 5) = [bv c] := by
      rw [k3, Nat.mul_one]
      have h1 : i < (bcs x).length := by rw [bcs_length]; omega
      rw [List.getElem?_eq_getElem h1] at hc
      rw [List.drop_eq_getElem_cons h1, Option.some.inj hc]
      rfl
    refine ⟨[Lit.int .u8 c.toNat], ?_⟩
    rw [e]
    have hw : (Lit.int .u8 (c.toNat : Int)).wf = true := WalkArith.wf_u8 (by have := c.toNat_lt; omega)
    unfold Program.keyLits
    simp [Tryz.underlying5, bv, hw])
  rw [hys]
  exact ⟨_, rfl⟩

theorem idKeyOf (x : List UInt8) (hx : x.length = 32) : ∃ l, keyOf Tryz.prog 31 (idv x) = some l := by
  have k1 : Tryz.prog.keyType 31 = true := by kernel_rfl
  have k2 : Tryz.prog.cellsOf 31 = 32 := by kernel_rfl
  obtain ⟨m, hm⟩ : ∃ m, Tryz.prog.types.size = m + 1 := ⟨Tryz.prog.types.size - 1, by have := idRow; omega⟩
  obtain ⟨L, hL⟩ := id_lits m x hx
  unfold keyOf
  simp only [Tryz.underlying31]
  rw [if_pos (by simp [k1, Value.formed, Tryz.underlying31, k2, bcs_length, hx]), hm]
  refine ⟨_, by rw [show (idv x).cells.toList = bcs x from rfl, hL]; rfl⟩

theorem drKeyOf (d : Dr) (hd : d.Ok) : ∃ l, keyOf Tryz.prog 44 (drv d) = some l := by
  have k1 : Tryz.prog.keyType 44 = true := by kernel_rfl
  have k2 : Tryz.prog.cellsOf 44 = 35 := by kernel_rfl
  have k3 : Tryz.prog.cellsOf 31 = 32 := by kernel_rfl
  have k4 : Tryz.prog.cellsOf 3 = 1 := by kernel_rfl
  have k5 : Tryz.prog.cellsOf 9 = 1 := by kernel_rfl
  obtain ⟨m, hm⟩ : ∃ m, Tryz.prog.types.size = m + 2 := ⟨Tryz.prog.types.size - 2, by have : 2 ≤ Tryz.prog.types.size := of_decide_eq_true (by kernel_rfl); omega⟩
  have hdl := Dr.cs_length hd
  obtain ⟨L, hL⟩ := id_lits m d.ref hd.ref
  have w1 : (Lit.int .i64 d.kind).wf = true := WalkArith.wf_i64 (by have := hd.lo; have := hd.hi; omega)
  have w2 : (ByteArray.mk d.key.toArray).size ≤ maxLen := by rw [size_txt]; have := hd.key; unfold maxLen; omega
  have w3 : (ByteArray.mk d.value.toArray).size ≤ maxLen := by rw [size_txt]; have := hd.value; unfold maxLen; omega
  unfold keyOf
  simp only [Tryz.underlying44]
  rw [if_pos (by simp [k1, Value.formed, Tryz.underlying44, k2, hdl]), hm]
  have e : ∃ M, Tryz.prog.keyLits (m + 2 + 1) 44 (drv d).cells.toList = some M := by
    unfold Program.keyLits
    simp only [Tryz.underlying44, Value.cells]
    rw [if_pos (by rw [k2]; simp [hdl])]
    have f1 : (d.cs.drop 0).take (Tryz.prog.cellsOf 3) = [.int .i64 d.kind] := by rw [k4]; rfl
    have f2 : (d.cs.drop 1).take (Tryz.prog.cellsOf 9) = [txt d.key] := by rw [k5]; rfl
    have f3 : (d.cs.drop 2).take (Tryz.prog.cellsOf 9) = [txt d.value] := by rw [k5]; rfl
    have f4 : (d.cs.drop 3).take (Tryz.prog.cellsOf 31) = bcs d.ref := by
      rw [k3]
      show (bcs d.ref).take 32 = _
      exact List.take_of_length_le (Nat.le_of_eq (by rw [bcs_length, hd.ref]))
    have g1 : Tryz.prog.keyLits (m + 2) 3 [.int .i64 d.kind] = some [.int .i64 d.kind] := by
      unfold Program.keyLits
      simp [Tryz.underlying3, w1]
    have g2 : ∀ s : List UInt8, (ByteArray.mk s.toArray).size ≤ maxLen → Tryz.prog.keyLits (m + 2) 9 [txt s] = some [.string s] := fun s hs => by
      unfold Program.keyLits
      simp [Tryz.underlying9, hs]
    simp only [List.mapM_cons, List.mapM_nil, f1, f2, f3, f4, g1, g2 _ w2, g2 _ w3, hL]
    exact ⟨_, rfl⟩
  obtain ⟨M, hM⟩ := e
  refine ⟨_, by rw [hM]; rfl⟩

/-! ### equality -/
set_option maxRecDepth 100000 in
theorem run_eq_id (w : World) (x y : List UInt8) (hx : x.length = 32) (hy : y.length = 32) : (Op.equal 31 (idv x) (idv y)).run Tryz.prog w = .ok (decide (x = y)) w := by
  obtain ⟨lx, h1⟩ := idKeyOf x hx
  obtain ⟨ly, h2⟩ := idKeyOf y hy
  obtain ⟨r, hr, hi⟩ := run_equal_deep w (m := 2) (by omega) idKeyT idWide h1 h2
  rw [hr]
  congr 1
  cases r with
  | true =>
    have := hi.1 rfl
    subst this
    have := idv_inj (idKeyLaw.inj h1 h2)
    simp [this]
  | false =>
    by_cases e : x = y
    · subst e
      have := hi.2 (Option.some.inj (h1.symm.trans h2))
      cases this
    · simp [e]

set_option maxRecDepth 100000 in
theorem run_eq_dr (w : World) (x y : Dr) (hx : x.Ok) (hy : y.Ok) : (Op.equal 44 (drv x) (drv y)).run Tryz.prog w = .ok (decide (x = y)) w := by
  obtain ⟨lx, h1⟩ := drKeyOf x hx
  obtain ⟨ly, h2⟩ := drKeyOf y hy
  obtain ⟨r, hr, hi⟩ := run_equal_deep w (m := 3) (by omega) drKeyT drWide h1 h2
  rw [hr]
  congr 1
  cases r with
  | true =>
    have := hi.1 rfl
    subst this
    have := drv_inj (drKeyLaw.inj h1 h2)
    simp [this]
  | false =>
    by_cases e : x = y
    · subst e
      have := hi.2 (Option.some.inj (h1.symm.trans h2))
      cases this
    · simp [e]

theorem guardId : Tryz.prog.eqGuardType Tryz.prog.depth 31 = false := by kernel_rfl
theorem guardDr : Tryz.prog.eqGuardType Tryz.prog.depth 44 = false := by kernel_rfl

theorem run_eqGuard_agg {P : Program} (w : World) (op : BinOp) (t : TypeId) (x y : Operand) (a b : Array Value) (h : P.eqGuardType P.depth t = false) : (eqGuard op t x y (.agg a) (.agg b)).run P w = .ok () w := by
  unfold eqGuard
  split <;> simp [h]

set_option maxRecDepth 100000 in
theorem wpList_eqId {w : World} {ops : Array Oper} {rest : List Oper} {o : Oper} {a : Act} {Q : Exit → Act → World → Prop} (hgd : o.guard = none) (u : TypeId) (x y : Operand) (ho : o.op = .binOp .eql 31 x y u)
    (l r : List UInt8) (hx : a.eval x = idv l) (hy : a.eval y = idv r) (h1 : l.length = 32) (h2 : r.length = 32)
    (hK : wpList Tryz.prog ops Q rest (a.put o.dst (.bool (decide (l = r)))) w) : wpList Tryz.prog ops Q (o :: rest) a w := by
  refine wpList_plain hgd fun K hK' => ?_
  unfold Oper.wp execOp
  simp only [ho, hx, hy, Sem.run_bind, run_eqGuard_agg w _ _ _ _ _ _ guardId, binOp, run_eq_id w l r h1 h2, Sem.run_pure, Result.andThen_ok]
  exact hK' _ _ hK
set_option maxRecDepth 100000 in
theorem wpList_neId {w : World} {ops : Array Oper} {rest : List Oper} {o : Oper} {a : Act} {Q : Exit → Act → World → Prop} (hgd : o.guard = none) (u : TypeId) (x y : Operand) (ho : o.op = .binOp .neq 31 x y u)
    (l r : List UInt8) (hx : a.eval x = idv l) (hy : a.eval y = idv r) (h1 : l.length = 32) (h2 : r.length = 32)
    (hK : wpList Tryz.prog ops Q rest (a.put o.dst (.bool (!decide (l = r)))) w) : wpList Tryz.prog ops Q (o :: rest) a w := by
  refine wpList_plain hgd fun K hK' => ?_
  unfold Oper.wp execOp
  simp only [ho, hx, hy, Sem.run_bind, run_eqGuard_agg w _ _ _ _ _ _ guardId, binOp, run_eq_id w l r h1 h2, Sem.run_pure, Result.andThen_ok]
  exact hK' _ _ hK
set_option maxRecDepth 100000 in
theorem wpList_neDr {w : World} {ops : Array Oper} {rest : List Oper} {o : Oper} {a : Act} {Q : Exit → Act → World → Prop} (hgd : o.guard = none) (u : TypeId) (x y : Operand) (ho : o.op = .binOp .neq 44 x y u)
    (l r : Dr) (hx : a.eval x = drv l) (hy : a.eval y = drv r) (h1 : l.Ok) (h2 : r.Ok)
    (hK : wpList Tryz.prog ops Q rest (a.put o.dst (.bool (!decide (l = r)))) w) : wpList Tryz.prog ops Q (o :: rest) a w := by
  refine wpList_plain hgd fun K hK' => ?_
  unfold Oper.wp execOp
  simp only [ho, hx, hy, Sem.run_bind, run_eqGuard_agg w _ _ _ _ _ _ guardDr, binOp, run_eq_dr w l r h1 h2, Sem.run_pure, Result.andThen_ok]
  exact hK' _ _ hK
end Go.Proofs.YtfoifdhcelcgiaaGreatDoor

/- NAMES IN ORDER: Compare by both. -/
namespace Go.Proofs.YtfoifdhcelcgiaaGreatDoor
open Go Go.RowKit

abbrev cmpB (x y : List UInt8) : Int := Lib.compareBytes x y

theorem bytesOf_nums (l : List UInt8) : Lib.bytesOf (l.map fun b => (b.toNat : Int)) = l := by
  simp [Lib.bytesOf, Function.comp_def]

theorem run_bytesOf_src {P : Program} (w : World) (p : Option Addr) (l : List UInt8) (c : Nat) (h : SrcAt w p (bcs l)) (hA : ∀ a, p = some a → a.spot = none) : (Extern.Bytes.bytesOf (.slice p l.length c)).run P w = .ok ⟨l.toArray⟩ w := by
  cases p with
  | none =>
    have : l = [] := by
      cases l with
      | nil => rfl
      | cons b l => obtain ⟨b', off, h, _⟩ := h 0 (bv b) rfl; cases h
    subst this
    rfl
  | some a =>
    obtain ⟨b, off, spot⟩ := a
    have : spot = none := hA _ rfl
    subst this
    have hl := Lib.run_loadBytesX (P := P) w (l.map fun b => (b.toNat : Int)) ⟨b, off, none⟩ .empty (fun j x hj => by
      obtain ⟨b', off', e', hc⟩ := h j (.int .u8 x) (by
        simp only [bcs, List.getElem?_map, Option.map_eq_some_iff] at hj ⊢
        obtain ⟨a, ha, rfl⟩ := hj
        exact ⟨a, ha, rfl⟩)
      simp at e'
      obtain ⟨rfl, rfl⟩ := e'
      have hadd : (⟨b, off, none⟩ : Addr).add j = ⟨b, off + j, none⟩ := by unfold Addr.add; split <;> simp_all
      rw [hadd]
      exact hc)
    rw [bytesOf_nums, List.length_map] at hl
    show (Extern.Bytes.loadBytes ⟨b, off, none⟩ l.length .empty).run P w = _
    rw [hl]
    congr 1
    apply ByteArray.ext
    show (#[] : Array UInt8) ++ l.toArray = l.toArray
    simp

theorem run_compareSlices {P : Program} (w : World) (p q : Option Addr) (l r : List UInt8) (c d : Nat) (h : SrcAt w p (bcs l)) (hA : ∀ a, p = some a → a.spot = none) (h' : SrcAt w q (bcs r)) (hA' : ∀ a, q = some a → a.spot = none) :
    (Extern.BytealgCompare.compare #[.slice p l.length c, .slice q r.length d]).run P w = .ok (.int .i64 (cmpB l r)) w := by
  change Sem.run P (do pure (goInt (Extern.BytealgCompare.cmp (← Extern.Bytes.bytesOf (.slice p l.length c)) (← Extern.Bytes.bytesOf (.slice q r.length d))))) w = _
  simp only [Sem.run_bind, run_bytesOf_src w p l c h hA, run_bytesOf_src w q r d h' hA', Sem.run_pure, Result.andThen]
  rw [Lib.cmp_eq]
  rfl

set_option maxRecDepth 100000 in
set_option maxHeartbeats 2000000 in
theorem bytescmp_any (p q : Option Addr) (l r : List UInt8) (c d : Nat) (w : World) (h : SrcAt w p (bcs l)) (hA : ∀ a, p = some a → a.spot = none) (h' : SrcAt w q (bcs r)) (hA' : ∀ a, q = some a → a.spot = none) :
    Calls Tryz.prog 72 #[.slice p l.length c, .slice q r.length d] w fun e w' => e = .returned (.int .i64 (cmpB l r)) ∧ w' = w := by
  have H := Lib.hid (run_compareSlices (P := Tryz.prog) w p q l r c d h hA h' hA')
  clear h h' hA hA'
  go_enter Tryz.func72, Tryz.ntmps72
  go_wp2
  rw [run_callFunc_extern Tryz.func100 (by kernel_rfl) (by kernel_rfl) (by kernel_rfl) (e := Extern.BytealgCompare.compare) (by kernel_rfl), H.out]
  simp only [Result.andThen]
  rw [Oper.upon_value]
  go_wp2
  go_ret
  exact ⟨rfl, rfl⟩

set_option maxRecDepth 100000 in
set_option maxHeartbeats 2000000 in
theorem opcmp_any (x y : List UInt8) (hx : x.length = 32) (hy : y.length = 32) (w : World) :
    Calls Tryz.prog 41 #[idv x, idv y] w fun e w' => e = .returned (.int .i64 (cmpB x y)) ∧ Below w.heap.size w w' := by
  obtain ⟨w1, hw1⟩ : ∃ w1, w1 = (w.alloc (.cells (bcs x).toArray 31)).alloc (.cells (bcs y).toArray 31) := ⟨_, rfl⟩
  have hb1 : Below w.heap.size w w1 := by rw [hw1]; exact ((Below.refl _ w).alloc (Nat.le_refl _) _).alloc (by simp) _
  have hs1 : SrcAt w1 (some ⟨w.heap.size, 0, none⟩) (bcs x) := by rw [hw1]; exact (src_new w (bcs x) 31).of_block (fun b off e => by cases e; exact (MapKept.heap_alloc _ _).2 _ (by simp))
  have hs2 : SrcAt w1 (some ⟨w.heap.size + 1, 0, none⟩) (bcs y) := by rw [hw1]; simpa using src_new (w.alloc (.cells (bcs x).toArray 31)) (bcs y) 31
  have HB := Lib.hid hb1
  have H1 := Lib.hid hs1
  have H2 := Lib.hid hs2
  have HX := Lib.hid hx
  have HY := Lib.hid hy
  clear hb1 hs1 hs2 hx hy
  go_enter Tryz.func41, Tryz.ntmps41
  go_upto_region 1 with (first
    | (refine wpList_boxAgg _ rfl 31 _ rfl (bcs x).toArray (by rfl) ?_)
    | (refine wpList_boxAgg _ rfl 31 _ rfl (bcs y).toArray (by rfl) ?_))
  rw [show (w.alloc (.cells (bcs x).toArray 31)).alloc (.cells (bcs y).toArray 31) = w1 from hw1.symm]
  clear hw1
  refine wp_region_tail 2 (by kernel_rfl) (by kernel_rfl) ?_
  simp only [List.take_succ_cons, List.take_zero, List.drop_succ_cons, List.drop_zero]
  repeat still_step
  refine wpStill_nil ?_
  obtain ⟨w2, hw2⟩ : ∃ w2, w2 = w1.drew := ⟨_, rfl⟩
  have hcall := bytescmp_any (some ⟨w.heap.size, 0, none⟩) (some ⟨w.heap.size + 1, 0, none⟩) x y 32 32 w2 (by rw [hw2]; exact H1.out) (fun a e => by cases e; rfl) (by rw [hw2]; exact H2.out) (fun a e => by cases e; rfl)
  have hb2 : Below w.heap.size w w2 := by rw [hw2]; exact HB.out.drew
  rw [HX.out, HY.out] at hcall
  rw [← hw2]
  clear hw2
  go_wp2_with fail
  refine hcall.mono ?_
  rintro e w3 ⟨rfl, rfl⟩
  clear hcall
  go_wp2
  go_ret
  exact ⟨rfl, hb2⟩

theorem cmpB_drop : ∀ (n : Nat) (x y : List UInt8), n ≤ x.length → n ≤ y.length → x.take n = y.take n → cmpB x y = cmpB (x.drop n) (y.drop n)
  | 0, _, _, _, _, _ => rfl
  | n + 1, [], _, h, _, _ => by simp at h
  | n + 1, _ :: _, [], _, h, _ => by simp at h
  | n + 1, a :: x, b :: y, h1, h2, h => by
    simp only [List.take_succ_cons, List.cons.injEq] at h
    obtain ⟨rfl, h⟩ := h
    simp only [List.length_cons, Nat.add_le_add_iff_right] at h1 h2
    simp only [List.drop_succ_cons]
    rw [← cmpB_drop n x y h1 h2 h]
    show (if a < a then -1 else if a < a then 1 else Lib.compareBytes x y) = _
    simp [UInt8.lt_irrefl]

set_option maxRecDepth 100000 in
set_option maxHeartbeats 4000000 in
theorem refcmp_any (x y : List UInt8) (hx : x.length = 32) (hy : y.length = 32) (w : World) :
    Calls Tryz.prog 62 #[idv x, idv y] w fun e w' => e = .returned (.int .i64 (cmpB x y)) ∧ Below w.heap.size w w' := by
  obtain ⟨w1, hw1⟩ : ∃ w1, w1 = (w.alloc (.cells (bcs x).toArray 31)).alloc (.cells (bcs y).toArray 31) := ⟨_, rfl⟩
  have hb1 : Below w.heap.size w w1 := by rw [hw1]; exact ((Below.refl _ w).alloc (Nat.le_refl _) _).alloc (by simp) _
  have hs1 : cellsAt w1 w.heap.size 0 (bcs x) := by rw [hw1]; exact (by simpa using cellsAt_new w (bcs x).toArray 31 : cellsAt (w.alloc (.cells (bcs x).toArray 31)) w.heap.size 0 (bcs x)).of_block ((MapKept.heap_alloc _ _).2 _ (by simp))
  have hs2 : cellsAt w1 (w.heap.size + 1) 0 (bcs y) := by rw [hw1]; simpa using cellsAt_new (w.alloc (.cells (bcs x).toArray 31)) (bcs y).toArray 31
  have hz1 : w1.heap.size = w.heap.size + 2 := by rw [hw1]; simp
  have HB := Lib.hid hb1
  have H1 := Lib.hid hs1
  have H2 := Lib.hid hs2
  have HX := Lib.hid hx
  have HY := Lib.hid hy
  clear hb1 hs1 hs2 hx hy
  go_enter Tryz.func62, Tryz.ntmps62
  go_upto_region 1 with (first
    | (refine wpList_boxAgg _ rfl 31 _ rfl (bcs x).toArray (by rfl) ?_)
    | (refine wpList_boxAgg _ rfl 31 _ rfl (bcs y).toArray (by rfl) ?_))
  rw [show (w.alloc (.cells (bcs x).toArray 31)).alloc (.cells (bcs y).toArray 31) = w1 from hw1.symm]
  clear hw1
  go_wp2_with fail
  go_loopw [6] (fun i wr => ∃ n : Nat, n ≤ 32 ∧ i = .int .i64 n ∧ Hid (x.take n = y.take n) ∧ Hid (Below w1.heap.size w1 wr)) (fun i _ => 32 - (intOf i).toNat)
  case atStart => exact ⟨0, by omega, rfl, Lib.hid rfl, Lib.hid (Below.refl _ _)⟩
  case round =>
    obtain ⟨n, hn, rfl, htk, hbr⟩ := hrel
    have hszr := hbr.out.size
    by_cases hlt : n < 32
    · obtain ⟨a, ha1, ha2, ha3⟩ := byte_at (l := x) (j := n) (by rw [HX.out]; exact hlt)
      obtain ⟨b, hb1, hb2, hb3⟩ := byte_at (l := y) (j := n) (by rw [HY.out]; exact hlt)
      have hca : wr.cell? ⟨w.heap.size, n, none⟩ = some (bv a) := by
        have := (hbr.out.cell (p := ⟨w.heap.size, 0 + n, none⟩) (by show w.heap.size < _; omega)).trans (H1.out n _ ha1)
        rwa [Nat.zero_add] at this
      have hcb : wr.cell? ⟨w.heap.size + 1, n, none⟩ = some (bv b) := by
        have := (hbr.out.cell (p := ⟨w.heap.size + 1, 0 + n, none⟩) (by show w.heap.size + 1 < _; omega)).trans (H2.out n _ hb1)
        rwa [Nat.zero_add] at this
      have hcmp : Hid (cmpB x y = if a < b then -1 else if b < a then 1 else cmpB (x.drop (n + 1)) (y.drop (n + 1))) := Lib.hid (by
        rw [cmpB_drop n x y (by rw [HX.out]; omega) (by rw [HY.out]; omega) htk.out, ha2, hb2]
        rfl)
      have htk2 : Hid (a = b → x.take (n + 1) = y.take (n + 1)) := Lib.hid fun e => by
        rw [List.take_add_one, List.take_add_one, htk.out, ha3, hb3, e]
      clear ha1 ha2 ha3 hb1 hb2 hb3
      have hbx : Hid (Below w.heap.size w wr) := Lib.hid (HB.out.trans (hbr.out.mono (by omega)))
      by_cases h1 : a.toNat < b.toNat
      · have d1 : decide ((a.toNat : Int) < (b.toNat : Int)) = true := by simpa using h1
        go_wp2_with fail
        go_quiet (fail)
        go_wp2
        go_ret
        refine ⟨?_, below_drewN hbx.out _⟩
        rw [hcmp.out, if_pos (UInt8.lt_iff_toNat_lt.2 h1)]
        rfl
      · have d1 : decide ((a.toNat : Int) < (b.toNat : Int)) = false := by simpa using h1
        by_cases h2 : b.toNat < a.toNat
        · have d2 : decide ((b.toNat : Int) < (a.toNat : Int)) = true := by simpa using h2
          go_wp2_with fail
          go_quiet (fail)
          go_wp2
          go_quiet (fail)
          go_wp2
          go_ret
          refine ⟨?_, below_drewN (below_drewN hbx.out _) _⟩
          rw [hcmp.out, if_neg (fun e => h1 (UInt8.lt_iff_toNat_lt.1 e)), if_pos (UInt8.lt_iff_toNat_lt.2 h2)]
          rfl
        · have d2 : decide ((b.toNat : Int) < (a.toNat : Int)) = false := by simpa using h2
          go_wp2_with fail
          go_quiet (fail)
          go_wp2
          go_quiet (fail)
          go_wp2
          go_roundw
          case rel => exact ⟨n + 1, by omega, by go_num, Lib.hid (htk2.out (UInt8.toNat_inj.1 (by omega))), Lib.hid (below_drewN hbr.out _)⟩
          case measure => simp [intOf] <;> omega
    · obtain rfl : n = 32 := by omega
      go_wp2
      go_ret
      refine ⟨?_, HB.out.trans (hbr.out.mono (by omega))⟩
      have e1 : x = y := by
        have := htk.out
        rwa [List.take_of_length_le (Nat.le_of_eq HX.out), List.take_of_length_le (Nat.le_of_eq HY.out)] at this
      have e2 : cmpB x y = 0 := by
        rw [e1, cmpB_drop y.length y y (Nat.le_refl _) (Nat.le_refl _) rfl, List.drop_length]
        rfl
      rw [e2]
      rfl
end Go.Proofs.YtfoifdhcelcgiaaGreatDoor
