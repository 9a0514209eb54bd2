/-
  POST: THE OBJECT, AND WHAT EACH METHOD DOES TO IT.
-/
import Derived.Test.YtamnffcafbfojaaPkSort
import Derived.DeepKeys4
import Derived.Lib.Hide
namespace Go.Proofs.Ytamnffcafbfojaa
open Go Go.RowKit

/-- something that waits -/
structure Dv where
  seq : Int
  to : Int
  age : Int

def Dv.key (d : Dv) : Int × Int := (d.to, d.seq)
def wval (d : Dv) : Value := .int .i64 d.age
def cval (c : (Int × Int) × Int) : Value := .int .i64 c.2

def I64 (x : Int) : Prop := -9223372036854775808 ≤ x ∧ x ≤ 9223372036854775807

structure IsPost (w : World) (pb mw mc : Nat) (W : List Dv) (C : List ((Int × Int) × Int)) : Prop where
  box : w.heap[pb]? = some (.cells #[.map (some mw), .map (some mc)] 59 (0, 0))
  wait : hasMap Try.prog 61 w mw (W.map fun d => (kv d.key, wval d))
  came : hasMap Try.prog 61 w mc (C.map fun c => (kv c.1, cval c))
  ne : mw ≠ mc

theorem pkLaidOut : laidOutB Try.prog = true := by kernel_rfl
theorem pkRow : 61 < Try.prog.types.size := of_decide_eq_true (by kernel_rfl)
theorem pkKey : Try.prog.keyTypeAt 2 61 = true := by kernel_rfl
theorem pkWide : (match Try.prog.underlying 61 with | some (.array _ _) | some (.struct _) => true | _ => false) = true := by kernel_rfl
theorem pkLaw : Maps.Keyed Try.prog 61 := Maps.Keyed.of_law (deep_law_laid pkLaidOut (m := 2) (by omega) pkRow pkKey pkWide)
theorem pkKeyOf (x : Int × Int) (h1 : I64 x.1) (h2 : I64 x.2) : ∃ l, keyOf Try.prog 61 (kv x) = some l := by
  have k1 : Try.prog.keyType 61 = true := by kernel_rfl
  have k2 : Try.prog.cellsOf 61 = 2 := by kernel_rfl
  have k3 : Try.prog.cellsOf 3 = 1 := by kernel_rfl
  obtain ⟨m, hm⟩ : ∃ m, Try.prog.types.size = m + 1 := ⟨Try.prog.types.size - 1, by have := pkRow; omega⟩
  have w1 : (Lit.int .i64 x.1).wf = true := WalkArith.wf_i64 (by unfold I64 at *; omega)
  have w2 : (Lit.int .i64 x.2).wf = true := WalkArith.wf_i64 (by unfold I64 at *; omega)
  unfold keyOf kv
  simp only [Try.underlying61]
  rw [if_pos (by simp [k1, Value.formed, Try.underlying61, k2]), hm]
  unfold Program.keyLits
  simp only [Try.underlying61, Value.cells]
  rw [if_pos (by rw [k2]; simp)]
  simp [Program.keyLits, Try.underlying3, k3, w1, w2]
theorem zeroInt (w : World) : (zeroValue 3).run Try.prog w = .ok (.int .i64 0) w := by kernel_rfl

def sent1 (W : List Dv) (seq to : Int) : List Dv := ⟨seq, to, 0⟩ :: W.filter fun d => decide (d.key ≠ (to, seq))
def bit (mask : Int) (n : Nat) : Bool := bits BinOp.and IntKind.i64 (mask / 2 ^ n) 1 == 1
def sentN (W : List Dv) (seq mask : Int) : Nat → List Dv
  | 0 => W
  | n + 1 => if bit mask n then sent1 (sentN W seq mask n) seq n else sentN W seq mask n

theorem kv_inj {x y : Int × Int} (h : kv x = kv y) : x = y := by
  unfold kv at h
  simp at h
  exact Prod.ext h.1 h.2

theorem restAt_wait (W : List Dv) (k : Int × Int) (hn : (W.map Dv.key).Nodup) : restAt (W.map fun d => (kv d.key, wval d)) (kv k) ((W.filter fun d => decide (d.key ≠ k)).map fun d => (kv d.key, wval d)) := by
  induction W with
  | nil => exact .inr ⟨by simp, by simp⟩
  | cons a W ih =>
    simp only [List.map_cons, List.nodup_cons] at hn
    by_cases ha : a.key = k
    · refine .inl ⟨wval a, ?_⟩
      have : W.filter (fun d => decide (d.key ≠ k)) = W := List.filter_eq_self.2 (fun d hd => by
        have : d.key ≠ k := fun e => hn.1 (List.mem_map.2 ⟨d, hd, e.trans ha.symm⟩)
        simpa using this)
      simp only [List.filter_cons, ha, ne_eq, not_true_eq_false, decide_false, Bool.false_eq_true, if_false, List.map_cons]
      rw [show W.filter (fun d => decide (¬ d.key = k)) = W from this]
    · have hf : (a :: W).filter (fun d => decide (d.key ≠ k)) = a :: W.filter (fun d => decide (d.key ≠ k)) := by simp [ha]
      rw [hf]
      rcases ih hn.2 with ⟨v, h⟩ | ⟨h, h'⟩
      · exact .inl ⟨v, by simp only [List.map_cons]; exact (h.cons _).trans (List.Perm.swap _ _ _)⟩
      · refine .inr ⟨by simp only [List.map_cons]; exact h.cons _, fun v hv => ?_⟩
        simp only [List.map_cons, List.mem_cons] at hv
        rcases hv with hv | hv
        · exact ha (kv_inj (Prod.mk.inj hv).1).symm
        · exact h' v hv

theorem IsPost.nodup {w : World} {pb mw mc : Nat} {W : List Dv} {C : List ((Int × Int) × Int)} (h : IsPost w pb mw mc W C) : (W.map Dv.key).Nodup := by
  have := h.wait.nodup
  rw [List.map_map] at this
  have h2 : (W.map Dv.key).map kv = W.map ((fun x => x.1) ∘ fun d => (kv d.key, wval d)) := by simp [List.map_map, Function.comp_def]
  rw [← h2] at this
  exact List.Pairwise.of_map kv (fun a b hab e => hab (by rw [e])) this

/-- only the map of what waits has turned -/
theorem IsPost.waitTurned {w w1 : World} {pb mw mc : Nat} {W W' : List Dv} {C : List ((Int × Int) × Int)} (h : IsPost w pb mw mc W C) (hg : w.grownBy w1 (some mw)) (hw : hasMap Try.prog 61 w1 mw (W'.map fun d => (kv d.key, wval d))) : IsPost w1 pb mw mc W' C := by
  have hb : pb ≠ mw := fun e => by
    obtain ⟨es, clock, h1, _⟩ := h.wait
    rw [← e, h.box] at h1; cases h1
  exact ⟨(hg.block pb (Array.getElem?_eq_some_iff.1 h.box).1 (fun e => hb (by cases e; rfl))).trans h.box, hw, h.came.of_block (hg.block mc h.came.lt (fun e => h.ne (by cases e; rfl))), h.ne⟩

theorem grownBy_trans {a b c : World} {r : Option Nat} (h : a.grownBy b r) (k : b.grownBy c r) : a.grownBy c r :=
  ⟨k.os.trans h.os, k.tape.trans h.tape, k.output.trans h.output, Nat.le_trans h.size k.size, fun i hi hne => (k.block i (Nat.lt_of_lt_of_le hi h.size) hne).trans (h.block i hi hne)⟩

theorem grownBy_refl (w : World) (r : Option Nat) : w.grownBy w r := ⟨rfl, rfl, rfl, Nat.le_refl _, fun _ _ _ => rfl⟩

set_option maxRecDepth 100000 in
set_option maxHeartbeats 400000 in
theorem sent_any (pb mw mc : Nat) (W : List Dv) (C : List ((Int × Int) × Int)) (seq mask : Int) (w : World) (h : IsPost w pb mw mc W C) (hs : I64 seq) :
    Calls Try.prog 10 #[.pointer (some ⟨pb, 0, none⟩), .int .i64 seq, .int .i64 mask] w fun e w' => e = .returned (.tuple #[]) ∧ IsPost w' pb mw mc (sentN W seq mask 5) C ∧ w.grownBy w' (some mw) ∧ w'.heap.size = w.heap.size := by
  go_enter Try.func10, Try.ntmps10
  go_wp2
  go_loopw [6] (fun i wr => ∃ n : Nat, n ≤ 5 ∧ i = .int .i64 n ∧ IsPost wr pb mw mc (sentN W seq mask n) C ∧ w.grownBy wr (some mw) ∧ wr.heap.size = w.heap.size) (fun i _ => 5 - (intOf i).toNat)
  case atStart => exact ⟨0, by omega, rfl, h, grownBy_refl _ _, rfl⟩
  case round =>
    obtain ⟨n, hn, rfl, hp, hg, hz⟩ := hrel
    by_cases hlt : n < 5
    · have c0 : wr.cell? ⟨pb, 0, none⟩ = some (.map (some mw)) := by simp [World.cell?, hp.box]
      obtain ⟨kl, hkey⟩ := pkKeyOf ((n : Int), seq) (by unfold I64; omega) hs
      have hnd := hp.nodup
      have H0 := Lib.hid hkey
      have H1 := Lib.hid hz
      have H2 := Lib.hid hg
      have H3 := Lib.hid hp
      have H4 := Lib.hid hnd
      clear hz hg hp hkey hnd
      by_cases hb : bit mask n = true
      · have HB := Lib.hid hb
        unfold bit at hb
        go_wp2_with (first | (at_mapUpdate; refine wpList_store _ rfl _ _ _ 57 rfl 61 3 pkLaw Try.underlying57 mw _ rfl H3.out.wait (kv ((n : Int), seq)) (.int .i64 0) kl rfl rfl H0.out ?_; intro w1 hg1 hs1 hst1; have H5 := Lib.hid hg1; have H6 := Lib.hid hs1; have H7 := Lib.hid hst1; clear hg1 hs1 hst1))
        go_roundw
        case rel =>
          refine ⟨n + 1, by omega, by go_num, ?_, grownBy_trans H2.out H5.out, H6.out.trans H1.out⟩
          unfold sentN
          rw [if_pos HB.out]
          exact H3.out.waitTurned H5.out (H7.out _ (restAt_wait _ _ H4.out))
        case measure => simp [intOf]; omega
      · have hb' : bit mask n = false := by simpa using hb
        have HB := Lib.hid hb'
        clear hb
        unfold bit at hb'
        go_wp2
        go_roundw
        case rel =>
          refine ⟨n + 1, by omega, by go_num, ?_, H2.out, H1.out⟩
          unfold sentN
          rw [HB.out]
          exact H3.out
        case measure => simp [intOf]; omega
    · obtain rfl : n = 5 := by omega
      go_wp2
      go_end0
      exact ⟨rfl, hp, hg, hz⟩

/-! ### look-ups -/
def getC (C : List ((Int × Int) × Int)) (k : Int × Int) : Int := ((C.find? fun c => decide (c.1 = k)).map (·.2)).getD 0
def hasC (C : List ((Int × Int) × Int)) (k : Int × Int) : Bool := C.any fun c => decide (c.1 = k)
def getW (W : List Dv) (k : Int × Int) : Int := ((W.find? fun d => decide (d.key = k)).map (·.age)).getD 0
def hasW (W : List Dv) (k : Int × Int) : Bool := W.any fun d => decide (d.key = k)

theorem getC_of {C : List ((Int × Int) × Int)} {c : (Int × Int) × Int} (hn : (C.map (·.1)).Nodup) (hc : c ∈ C) : getC C c.1 = c.2 := by
  unfold getC
  induction C with
  | nil => simp at hc
  | cons a C ih =>
    simp only [List.map_cons, List.nodup_cons] at hn
    rcases List.mem_cons.1 hc with rfl | hc
    · simp
    · have : a.1 ≠ c.1 := fun e => hn.1 (List.mem_map.2 ⟨c, hc, e.symm⟩)
      simp only [List.find?_cons, this, decide_false]
      exact ih hn.2 hc

theorem getW_of {W : List Dv} {d : Dv} (hn : (W.map Dv.key).Nodup) (hc : d ∈ W) : getW W d.key = d.age := by
  unfold getW
  induction W with
  | nil => simp at hc
  | cons a C ih =>
    simp only [List.map_cons, List.nodup_cons] at hn
    rcases List.mem_cons.1 hc with rfl | hc
    · simp
    · have : a.key ≠ d.key := fun e => hn.1 (List.mem_map.2 ⟨d, hc, e.symm⟩)
      simp only [List.find?_cons, this, decide_false]
      exact ih hn.2 hc

theorem IsPost.nodupC {w : World} {pb mw mc : Nat} {W : List Dv} {C : List ((Int × Int) × Int)} (h : IsPost w pb mw mc W C) : (C.map (·.1)).Nodup := by
  have := h.came.nodup
  rw [List.map_map] at this
  have h2 : (C.map (·.1)).map kv = C.map ((fun x => x.1) ∘ fun c => (kv c.1, cval c)) := by simp [List.map_map, Function.comp_def]
  rw [← h2] at this
  exact List.Pairwise.of_map kv (fun a b hab e => hab (by rw [e])) this

theorem IsPost.lookC {w : World} {pb mw mc : Nat} {W : List Dv} {C : List ((Int × Int) × Int)} (h : IsPost w pb mw mc W C) {k : Int × Int} (h1 : I64 k.1) (h2 : I64 k.2) (c : Bool) :
    (Instr.lookup 57 (.map (some mc)) (.agg #[.int .i64 k.1, .int .i64 k.2]) c).run Try.prog w = .ok (if c then .tuple #[.int .i64 (getC C k), .bool (hasC C k)] else .int .i64 (getC C k)) w := by
  obtain ⟨kl, hkey⟩ := pkKeyOf k h1 h2
  rcases h.came.look pkLaw Try.underlying57 (zeroInt w) hkey c with ⟨hno, hrun⟩ | ⟨v, hv, hrun⟩
  · have hall : ∀ x ∈ C, ¬ x.1 = k := fun x hx e => hno (cval x) (List.mem_map.2 ⟨x, hx, by rw [e]⟩)
    have e1 : getC C k = 0 := by
      unfold getC
      rw [List.find?_eq_none.2 (fun x hx => by simpa using hall x hx)]
      rfl
    have e2 : hasC C k = false := by
      unfold hasC
      rw [List.any_eq_false]
      exact fun x hx => by simpa using hall x hx
    rw [e1, e2]
    exact hrun
  · obtain ⟨x, hx, he⟩ := List.mem_map.1 hv
    have hk : x.1 = k := kv_inj (Prod.mk.inj he).1
    have e1 : getC C k = x.2 := by rw [← hk]; exact getC_of h.nodupC hx
    have e2 : hasC C k = true := by unfold hasC; exact List.any_eq_true.2 ⟨x, hx, by simp [hk]⟩
    have e3 : v = .int .i64 x.2 := (Prod.mk.inj he).2.symm
    rw [e1, e2, ← e3]
    exact hrun

theorem IsPost.lookW {w : World} {pb mw mc : Nat} {W : List Dv} {C : List ((Int × Int) × Int)} (h : IsPost w pb mw mc W C) {k : Int × Int} (h1 : I64 k.1) (h2 : I64 k.2) (c : Bool) :
    (Instr.lookup 57 (.map (some mw)) (.agg #[.int .i64 k.1, .int .i64 k.2]) c).run Try.prog w = .ok (if c then .tuple #[.int .i64 (getW W k), .bool (hasW W k)] else .int .i64 (getW W k)) w := by
  obtain ⟨kl, hkey⟩ := pkKeyOf k h1 h2
  rcases h.wait.look pkLaw Try.underlying57 (zeroInt w) hkey c with ⟨hno, hrun⟩ | ⟨v, hv, hrun⟩
  · have hall : ∀ x ∈ W, ¬ x.key = k := fun x hx e => hno (wval x) (List.mem_map.2 ⟨x, hx, by rw [e]⟩)
    have e1 : getW W k = 0 := by
      unfold getW
      rw [List.find?_eq_none.2 (fun x hx => by simpa using hall x hx)]
      rfl
    have e2 : hasW W k = false := by
      unfold hasW
      rw [List.any_eq_false]
      exact fun x hx => by simpa using hall x hx
    rw [e1, e2]
    exact hrun
  · obtain ⟨x, hx, he⟩ := List.mem_map.1 hv
    have hk : x.key = k := kv_inj (Prod.mk.inj he).1
    have e1 : getW W k = x.age := by rw [← hk]; exact getW_of h.nodup hx
    have e2 : hasW W k = true := by unfold hasW; exact List.any_eq_true.2 ⟨x, hx, by simp [hk]⟩
    have e3 : v = .int .i64 x.age := (Prod.mk.inj he).2.symm
    rw [e1, e2, ← e3]
    exact hrun

/-- only the map of what came has turned -/
theorem IsPost.cameTurned {w w1 : World} {pb mw mc : Nat} {W : List Dv} {C C' : List ((Int × Int) × Int)} (h : IsPost w pb mw mc W C) (hg : w.grownBy w1 (some mc)) (hw : hasMap Try.prog 61 w1 mc (C'.map fun c => (kv c.1, cval c))) : IsPost w1 pb mw mc W C' := by
  have hb : pb ≠ mc := fun e => by
    obtain ⟨es, clock, h1, _⟩ := h.came
    rw [← e, h.box] at h1; cases h1
  exact ⟨(hg.block pb (Array.getElem?_eq_some_iff.1 h.box).1 (fun e => hb (by cases e; rfl))).trans h.box, h.wait.of_block (hg.block mw h.wait.lt (fun e => h.ne (by cases e; rfl))), hw, h.ne⟩

def acked (W : List Dv) (k : Int × Int) : List Dv := W.filter fun d => decide (d.key ≠ k)
def comes (C : List ((Int × Int) × Int)) (k : Int × Int) (at_ : Int) : List ((Int × Int) × Int) := if hasC C k then C else (k, at_) :: C

set_option maxHeartbeats 400000 in
theorem new_any (w : World) : Calls Try.prog 9 #[] w fun e w' => ∃ pb mw mc, e = .returned (.pointer (some ⟨pb, 0, none⟩)) ∧ IsPost w' pb mw mc [] [] ∧ Below w.heap.size w w' ∧ w.heap.size ≤ pb ∧ w.heap.size ≤ mw ∧ w.heap.size ≤ mc := by
  have hmm := @run_makeMap Try.prog
  go_enter Try.func9, Try.ntmps9
  go_wp2
  go_ret
  have hbox := World.alloc_heap_new ((w.alloc (.map #[] 0)).alloc (.map #[] 0)) (.cells #[.map (some w.heap.size), .map (some (w.heap.size + 1))] 59)
  simp only [World.size_alloc] at hbox
  refine ⟨_, _, _, rfl, ⟨hbox, ?_, ?_, ?_⟩, ?_, ?_, ?_, ?_⟩
  · exact ((hasMap_made _ _ w).of_block ((Below.heap_alloc _ _ _ (by simp; omega)).trans (Below.heap_alloc _ _ _ (by simp))))
  · have h2 := (hasMap_made Try.prog 61 (w.alloc (.map #[] 0)))
    rw [World.size_alloc] at h2
    exact h2.of_block (Below.heap_alloc _ _ _ (by simp))
  · simp
  · exact (((Below.refl _ w).alloc (Nat.le_refl _) _).alloc (by simp) _).alloc (by simp; omega) _
  all_goals omega

set_option maxRecDepth 100000 in
set_option maxHeartbeats 400000 in
theorem where_any (pb mw mc : Nat) (W : List Dv) (C : List ((Int × Int) × Int)) (k : Int × Int) (w : World) (h : IsPost w pb mw mc W C) (h1 : I64 k.1) (h2 : I64 k.2) :
    Calls Try.prog 15 #[.pointer (some ⟨pb, 0, none⟩), .int .i64 k.1, .int .i64 k.2] w fun e w' => e = .returned (.int .i64 (getC C k)) ∧ w' = w := by
  have c1 : w.cell? ⟨pb, 1, none⟩ = some (.map (some mc)) := by simp [World.cell?, h.box]
  have hl := h.lookC h1 h2 false
  simp only [Bool.false_eq_true, if_false] at hl
  have H := Lib.hid h
  clear h
  go_enter Try.func15, Try.ntmps15
  go_wp2
  go_ret
  exact ⟨rfl, rfl⟩

set_option maxRecDepth 100000 in
set_option maxHeartbeats 400000 in
theorem came_any (pb mw mc : Nat) (W : List Dv) (C : List ((Int × Int) × Int)) (k : Int × Int) (at_ : Int) (w : World) (h : IsPost w pb mw mc W C) (h1 : I64 k.1) (h2 : I64 k.2) :
    Calls Try.prog 14 #[.pointer (some ⟨pb, 0, none⟩), .int .i64 k.1, .int .i64 k.2, .int .i64 at_] w fun e w' => e = .returned (.tuple #[]) ∧ IsPost w' pb mw mc W (comes C k at_) ∧ w.grownBy w' (some mc) ∧ w'.heap.size = w.heap.size := by
  have c1 : w.cell? ⟨pb, 1, none⟩ = some (.map (some mc)) := by simp [World.cell?, h.box]
  have hl := h.lookC h1 h2 true
  simp only [if_true] at hl
  obtain ⟨kl, hkey⟩ := pkKeyOf k h1 h2
  have H := Lib.hid h
  have HK := Lib.hid hkey
  clear h hkey
  unfold comes
  cases hc : hasC C k with
  | true =>
    rw [hc] at hl
    go_enter Try.func14, Try.ntmps14
    go_wp2
    go_end0
    exact ⟨rfl, H.out, grownBy_refl _ _, rfl⟩
  | false =>
    rw [hc] at hl
    have HC := Lib.hid hc
    clear hc
    go_enter Try.func14, Try.ntmps14
    go_wp2_with (first | (at_mapUpdate; refine wpList_store _ rfl _ _ _ 57 rfl 61 3 pkLaw Try.underlying57 mc _ rfl H.out.came (kv k) (.int .i64 at_) kl rfl rfl HK.out ?_; intro w1 hg1 hs1 hst1; have H5 := Lib.hid hg1; have H6 := Lib.hid hs1; have H7 := Lib.hid hst1; clear hg1 hs1 hst1))
    go_end0
    refine ⟨rfl, H.out.cameTurned H5.out ?_, H5.out, H6.out⟩
    simp only [List.map_cons]
    refine H7.out _ (.inr ⟨List.Perm.refl _, fun v hv => ?_⟩)
    obtain ⟨x, hx, he⟩ := List.mem_map.1 hv
    have hk : x.1 = k := kv_inj (Prod.mk.inj he).1
    have := HC.out
    unfold hasC at this
    rw [List.any_eq_false] at this
    exact this x hx (by simp [hk])

set_option maxRecDepth 100000 in
set_option maxHeartbeats 400000 in
theorem acked_any (pb mw mc : Nat) (W : List Dv) (C : List ((Int × Int) × Int)) (k : Int × Int) (w : World) (h : IsPost w pb mw mc W C) (h1 : I64 k.1) (h2 : I64 k.2) :
    Calls Try.prog 11 #[.pointer (some ⟨pb, 0, none⟩), .int .i64 k.2, .int .i64 k.1] w fun e w' => e = .returned (.bool (hasW W k)) ∧ IsPost w' pb mw mc (acked W k) C ∧ w.grownBy w' (some mw) ∧ w'.heap.size = w.heap.size := by
  have c1 : w.cell? ⟨pb, 0, none⟩ = some (.map (some mw)) := by simp [World.cell?, h.box]
  have hl := h.lookW h1 h2 true
  simp only [if_true] at hl
  obtain ⟨kl, hkey⟩ := pkKeyOf k h1 h2
  have H := Lib.hid h
  have HK := Lib.hid hkey
  clear h hkey
  go_enter Try.func11, Try.ntmps11
  go_wp2_with (first | (at_delete; refine wpList_drop _ rfl _ _ 57 61 rfl 3 pkLaw Try.underlying57 mw _ rfl H.out.wait (kv k) kl rfl HK.out ?_; intro w1 hg1 hs1 hst1; have H5 := Lib.hid hg1; have H6 := Lib.hid hs1; have H7 := Lib.hid hst1; clear hg1 hs1 hst1))
  go_ret
  exact ⟨rfl, H.out.waitTurned H5.out (H7.out _ (restAt_wait _ _ H.out.nodup)), H5.out, H6.out⟩
end Go.Proofs.Ytamnffcafbfojaa
