/-
  line.Of: the operations of a row that are of a key and of some kinds.
-/
import Derived.Test.YtfoifdhcelcgiaaGreatDoorDel
import Derived.Test.YtfoifdhcelcgiaaGreatDoorLineK
namespace Go.Proofs.YtfoifdhcelcgiaaGreatDoor
open Go Go.RowKit

def pickO (key : Tx) (kinds : List Int) (e : NOp) : Bool := decide (e.2.d.key = key) && kinds.contains e.2.d.kind

set_option maxRecDepth 100000 in
set_option maxHeartbeats 4000000 in
theorem ofclo_any (key : Tx) (kinds : List Int) (pk : Option Addr) (ck kb ks : Nat) (e : E3) (W : World) (hk : W.cell? ⟨kb, 0, none⟩ = some (txt key)) (hs : W.cell? ⟨ks, 0, none⟩ = some (.slice pk kinds.length ck))
    (hS : Src W pk (kinds.map (Value.int .i64))) (hkl : kinds.length ≤ 1000000000) :
    Calls Tryz.prog 48 (#[.agg e.cs.toArray] ++ #[.pointer (some ⟨kb, 0, none⟩), .pointer (some ⟨ks, 0, none⟩)]) W fun e' w' => e' = .returned (.bool (!(pickO key kinds e.ent))) ∧ Below W.heap.size W w' := by
  obtain ⟨w1, hw1⟩ : ∃ w1, w1 = W.alloc (.cells e.cs.toArray 46) := ⟨_, rfl⟩
  have hb1 : Below W.heap.size W w1 := by rw [hw1]; exact (Below.refl _ W).alloc (Nat.le_refl _) _
  have HB1 := Lib.hid hb1
  have hC : cellsAt w1 W.heap.size 0 e.cs := by rw [hw1]; simpa using cellsAt_new W e.cs.toArray 46
  have hc0 := (OpV.cs_kind (o := e.o) (p := e.p) (c := e.c) hC).1
  have hc1 := (OpV.cs_kind (o := e.o) (p := e.p) (c := e.c) hC).2.1
  have hck : w1.cell? ⟨kb, 0, none⟩ = some (txt key) := (hb1.cell (p := ⟨kb, 0, none⟩) (World.block_lt_of_cell? W _ hk)).trans hk
  have hcs : w1.cell? ⟨ks, 0, none⟩ = some (.slice pk kinds.length ck) := (hb1.cell (p := ⟨ks, 0, none⟩) (World.block_lt_of_cell? W _ hs)).trans hs
  have HCT := Lib.hid (containsI_any kinds e.o.d.kind pk ck w1 (hS.below hb1 (Nat.le_refl _)) hkl)
  have HPI := Lib.hid (show pickO key kinds e.ent = (decide (e.o.d.key = key) && kinds.contains e.o.d.kind) from rfl)
  obtain ⟨xk, hxk⟩ : ∃ x, x = e.o.d.key := ⟨_, rfl⟩
  obtain ⟨xi, hxi⟩ : ∃ x, x = e.o.d.kind := ⟨_, rfl⟩
  rw [← hxk] at hc1 HPI
  rw [← hxi] at hc0 HCT HPI
  clear hC hb1 hk hs hS hkl hxk hxi
  show Calls Tryz.prog 48 #[.agg e.cs.toArray, .pointer (some ⟨kb, 0, none⟩), .pointer (some ⟨ks, 0, none⟩)] W _
  go_enter Tryz.func48, Tryz.ntmps48
  go_upto_region 1 with (refine wpList_boxAgg _ rfl 46 _ rfl e.cs.toArray (by rfl) ?_)
  rw [← hw1]
  clear hw1
  by_cases hkk : xk = key
  · subst hkk
    go_wp2_with (go_at_call 49; refine HCT.out.mono ?_; rintro e w2 ⟨rfl, rfl⟩)
    go_ret
    exact ⟨by rw [HPI.out]; simp, HB1.out⟩
  · have hne1 : (xk == key) = false := beq_eq_false_iff_ne.2 hkk
    have hne2 : ((⟨xk.toArray⟩ : ByteArray).toList == (⟨key.toArray⟩ : ByteArray).toList) = false := by
      rw [ByteArray.toList_eq, ByteArray.toList_eq, beq_eq_false_iff_ne]
      exact hkk
    go_wp2_with fail
    go_ret
    exact ⟨by rw [HPI.out]; simp [hkk], HB1.out⟩

set_option maxRecDepth 100000 in
theorem opidx_nil (p : Option Addr) (c : Nat) (g : Nat) (lb : Array Value) (w : World) :
    Calls Tryz.prog 79 #[.slice p 0 c, .func (.func g) #[] lb] w fun e w' => e = .returned (.int .i64 (-1)) ∧ w' = w := by
  go_enter Tryz.func79, Tryz.ntmps79
  go_upto_region 2 with fail
  go_loopw [8] (fun i wr => i = .int .i64 0 ∧ wr = w) (fun _ _ => 0)
  case atStart => exact ⟨rfl, rfl⟩
  case round =>
    obtain ⟨rfl, rfl⟩ := hrel
    go_wp2
    go_ret
    exact ⟨rfl, rfl⟩
theorem opdel_nil (c : Nat) (g : Nat) (lb : Array Value) (w : World) :
    Calls Tryz.prog 47 #[.slice none 0 c, .func (.func g) #[] lb] w fun e w' => e = .returned (.slice none 0 c) ∧ w' = w := by
  have HIX := Lib.hid (opidx_nil none c g lb w)
  go_enter Tryz.func47, Tryz.ntmps47
  go_wp2_with (go_at_call 79; refine HIX.out.mono ?_; rintro e w1 ⟨rfl, rfl⟩)
  go_ret
  exact ⟨rfl, rfl⟩
theorem opdelO_any (base : Nat) (p : Option Addr) (cap : Nat) (L : List E3) (w : World) (hown : Owns w base 46 38 (.slice p L.length cap) L.length (ocs L)) (h38 : ∀ e ∈ L, e.cs.length = 38) (hone : ∀ e ∈ L, ∀ u ∈ e.cs, u.oneCell' = true) (g : Nat) (lb : Array Value) (eg : ∀ args w, (callFunc g args).run Tryz.prog w = .ok (.enter g args) w) (q : E3 → Bool)
    (hp : ∀ blk, p = some ⟨blk, 0, none⟩ → ∀ W, Keeps (fun i => i = blk) w W → ∀ e ∈ L, Calls Tryz.prog g (#[.agg e.cs.toArray] ++ lb) W fun e' w' => e' = .returned (.bool (q e)) ∧ Below W.heap.size W w') (hL : L.length ≤ 1000000) :
    Calls Tryz.prog 47 #[.slice p L.length cap, .func (.func g) #[] lb] w fun e w' => e = .returned (.slice p (L.filter fun e => !q e).length cap) ∧ Owns w' base 46 38 (.slice p (L.filter fun e => !q e).length cap) (L.filter fun e => !q e).length (ocs (L.filter fun e => !q e)) ∧ Keeps (fun i => p = some ⟨i, 0, none⟩) w w' := by
  rcases DelSt.of_owns hown h38 with ⟨rfl, h0, rfl⟩ | ⟨blk, rfl, hb, hd⟩
  · obtain rfl := List.eq_nil_of_length_eq_zero h0
    exact (opdel_nil 0 g lb w).mono fun e w' ⟨h1, h2⟩ => ⟨h1, by subst h2; exact Owns.nil _ _ _ _, by subst h2; exact Keeps.refl _ _⟩
  · exact (opdel_any blk cap L w hd hone g lb eg q (hp blk rfl) hL).mono fun e w' ⟨h1, h2, h3⟩ => ⟨h1, h2.owns hb, h3.mono fun i hi => by rw [hi]⟩
theorem RowOut.cut {w w' wx : World} {p : Option Addr} {cap : Nat} {R R' : List E3} {B : Nat → Prop} (h : RowOut w w' (.slice p R.length cap) R B) (ho : Owns wx w.heap.size 46 38 (.slice p R'.length cap) R'.length (ocs R')) (hk : Keeps (fun i => p = some ⟨i, 0, none⟩) w' wx) (hs : ∀ e ∈ R', e ∈ R) : RowOut w wx (.slice p R'.length cap) R' B := by
  have hnb : ∀ i, p = some ⟨i, 0, none⟩ → ¬ B i := fun i e => h.vB i (by rw [e]; rfl)
  exact ⟨ho, fun e he => (h.okR e (hs e he)).keeps hk.size (fun i hi hB => hk.block i hi (fun e' => hnb i e' hB)), fun g hg => h.vB g (by
    cases p with
    | none => simp [Value.ownBlock] at hg
    | some a => simpa [Value.ownBlock] using hg), fun i hi => ⟨(h.blt i hi).1, Nat.lt_of_lt_of_le (h.blt i hi).2 hk.size⟩, h.below.trans (hk.toBelow h.below.size (fun i hi e' => by
    have e2 : p = some ⟨i, 0, none⟩ := e'
    have := (h.own.lt (g := i) (by rw [e2]; rfl)).1
    omega))⟩

theorem filter_ent (R : List E3) (p : NOp → Bool) : (R.filter fun e => p e.ent).map E3.ent = (R.map E3.ent).filter p := by
  induction R with
  | nil => rfl
  | cons e R ih =>
    by_cases h : p e.ent = true
    · simp [h, ih]
    · simp [h, ih]
theorem ofdel_any (key : Tx) (kinds : List Int) (pk : Option Addr) (ck kb ks : Nat) (l : List NOp) (R : List E3) (pR : Option Addr) (cR : Nat) (BR : Nat → Prop) (w2 w3 : World) (hkb : w2.cell? ⟨kb, 0, none⟩ = some (txt key)) (hks : w2.cell? ⟨ks, 0, none⟩ = some (.slice pk kinds.length ck))
    (hS : Src w2 pk (kinds.map (Value.int .i64))) (hkl : kinds.length ≤ 1000000000) (hRE : R.map E3.ent = rowL l) (hRO : RowOut w2 w3 (.slice pR R.length cR) R BR) (hll : l.length ≤ 1000000) :
    Calls Tryz.prog 47 #[.slice pR R.length cR, .func (.func 48) #[] #[.pointer (some ⟨kb, 0, none⟩), .pointer (some ⟨ks, 0, none⟩)]] w3 fun e w' => ∃ R', e = .returned (.slice pR R'.length cR) ∧ R'.map E3.ent = (rowL l).filter (pickO key kinds) ∧ RowOut w2 w' (.slice pR R'.length cR) R' BR := by
  have eg : ∀ args w, (callFunc 48 args).run Tryz.prog w = .ok (.enter 48 args) w := enters_of Tryz.func48 (by kernel_rfl) rfl
  have hRl : R.length ≤ 1000000 := by
    have h1 := congrArg List.length hRE
    rw [List.length_map, rowL_length] at h1
    omega
  have hkb3 : kb < w2.heap.size := World.block_lt_of_cell? w2 _ hkb
  have hks3 : ks < w2.heap.size := World.block_lt_of_cell? w2 _ hks
  have hF : (R.filter fun e => !(!(pickO key kinds e.ent))) = R.filter fun e => pickO key kinds e.ent := by simp
  have h := opdelO_any w2.heap.size pR cR R w3 hRO.own hRO.cs38 (fun e he => by
    show ∀ u ∈ e.o.cs e.p e.c, u.oneCell' = true
    exact OpV.cs_one e.o e.p e.c) 48 #[.pointer (some ⟨kb, 0, none⟩), .pointer (some ⟨ks, 0, none⟩)] eg (fun e => !(pickO key kinds e.ent)) (fun blk hp W hW e he => by
      have hbg : w2.heap.size ≤ blk := (hRO.own.lt (g := blk) (by rw [hp]; rfl)).1
      have hbl : ∀ i, i < w2.heap.size → W.heap[i]? = w2.heap[i]? := fun i hi => (hW.block i (Nat.lt_of_lt_of_le hi hRO.below.size) (fun e' => by have e2 : i = blk := e'; omega)).trans (hRO.below.block i hi)
      exact ofclo_any key kinds pk ck kb ks e W ((World.cell?_of_block (a := ⟨kb, 0, none⟩) (hbl kb hkb3)).trans hkb) ((World.cell?_of_block (a := ⟨ks, 0, none⟩) (hbl ks hks3)).trans hks) (hS.of_blocks (Nat.le_trans hRO.below.size hW.size) (fun b _ _ hlt _ => hbl b hlt)) hkl) hRl
  rw [hF] at h
  exact h.mono fun e w' ⟨h1, h2, h3⟩ => ⟨_, h1, by rw [filter_ent, hRE], hRO.cut h2 h3 (fun e he => (List.mem_filter.1 he).1)⟩

set_option maxRecDepth 100000 in
set_option maxHeartbeats 8000000 in
theorem lineOf_any (key : Tx) (kinds : List Int) (pk : Option Addr) (ck : Nat) (b mo mw mt : Nat) (B : Nat → Prop) (O W : List E3) (T : List (Nm × Nat)) (w : World) (h : DagSet w b mo mw mt B O W T) (hI : DInv ⟨O.map E3.ent, W.map E3.ent⟩) (hL : O.length ≤ 1000000)
    (hs : Src w pk (kinds.map (Value.int .i64))) (hkl : kinds.length ≤ 1000000000) :
    Calls Tryz.prog 18 #[.pointer (some ⟨b, 0, none⟩), txt key, .slice pk kinds.length ck] w fun e w' => ∃ v R BR, e = .returned v ∧ R.map E3.ent = (rowL (O.map E3.ent)).filter (pickO key kinds) ∧ RowOut w w' v R BR := by
  obtain ⟨w2, hw2⟩ : ∃ w2, w2 = (w.alloc (.cells #[txt key] 9)).alloc (.cells #[.slice pk kinds.length ck] 39) := ⟨_, rfl⟩
  have hb2 : Below w.heap.size w w2 := by rw [hw2]; exact ((Below.refl _ w).alloc (Nat.le_refl _) _).alloc (by simp) _
  have HKB := Lib.hid (show w2.cell? ⟨w.heap.size, 0, none⟩ = some (txt key) by rw [hw2]; simp)
  have HKS := Lib.hid (show w2.cell? ⟨w.heap.size + 1, 0, none⟩ = some (.slice pk kinds.length ck) by rw [hw2]; simp)
  have hz2 : w.heap.size + 2 ≤ w2.heap.size := by rw [hw2]; simp
  have HCR := Lib.hid (row_any b mo mw mt B O W T w2 (h.under hb2) hI hL)
  have HS2 := Lib.hid (hs.below hb2 (Nat.le_refl _))
  have HB2 := Lib.hid hb2
  obtain ⟨l, hl⟩ : ∃ l, l = O.map E3.ent := ⟨_, rfl⟩
  have hll : l.length ≤ 1000000 := by rw [hl, List.length_map]; exact hL
  rw [← hl] at HCR ⊢
  clear h hI hL hs hl hb2
  go_enter Tryz.func18, Tryz.ntmps18
  go_upto_region 1 with fail
  rw [← hw2]
  clear hw2
  go_wp2_with (first
    | (go_at_call 16; refine HCR.out.mono ?_; rintro e w3 ⟨vR, R, BR, rfl, hRE, hRO⟩; obtain ⟨pR, cR, hpR⟩ := hRO.own.form; subst hpR; have HCD := Lib.hid (ofdel_any key kinds pk ck w.heap.size (w.heap.size + 1) l R pR cR BR w2 w3 HKB.out HKS.out HS2.out hkl hRE hRO hll); clear hRE)
    | (go_at_call 47; refine HCD.out.mono ?_; rintro e w4 ⟨R', rfl, hRE', hRO'⟩))
  go_ret
  exact ⟨_, R', BR, rfl, hRE', hRO'.from HB2.out⟩
end Go.Proofs.YtfoifdhcelcgiaaGreatDoor
