/-
  sha.Of; sha.Sum; regions that draw their order.
-/
import Derived.Test.YtfoifdhcelcgiaaGreatDoorJa
import Derived.Test.YtfoifdhcelcgiaaGreatDoorMix
import Derived.Deep.DeepCutAuto
import Derived.OrdersHeld
import Derived.Deep.RegionHeld3
import Derived.StillTail
import Derived.BigQuiet
import Derived.BigRegion
import Derived.WalkKit
/- MORE ON WHOLE VALUES: a result that lies in memory; an element of an array that is a value; an array of bytes that is filled from its beginning on. -/
namespace Go.Proofs.YtfoifdhcelcgiaaGreatDoor
open Go Go.RowKit

section
variable {P : Program} {w : World}

theorem results_cell {fn : Func} {p : Tmp} {ty : TypeId} (h : fn.results = #[.cell p ty]) {tmps : Array Value} {b off : Nat} (ha : tmps.getD p undef = .pointer (some ⟨b, off, none⟩)) {v : Value} (hl : (loadVar ty ⟨b, off, none⟩).run P w = .ok v w) :
    (results fn tmps).run P w = .ok v w := by
  simp only [results, h]
  have ha' : tmps[p]?.getD undef = .pointer (some ⟨b, off, none⟩) := by simpa using ha
  simp [ha', asAddr, hl]

theorem wpList_indexOne {ops : Array Oper} {rest : List Oper} {o : Oper} {a : Act} {Q : Exit → Act → World → Prop} (hg : o.guard = none) (t : TypeId) (x i : Operand) (hop : o.op = .index t x i) (n : Nat) (e : TypeId) (ht : P.underlying t = some (.array n e)) (d : TypeDesc) (he : P.underlying e = some d) (hd : isRowD d = false)
    (hs : (P.info? e).map (·.size) = some 1) (cs : Array Value) (hx : a.eval x = .agg cs) (k : IntKind) (j : Nat) (hi : a.eval i = .int k j) (hj : j < n) (v : Value) (hv : cs[j]? = some v) (h : wpList P ops Q rest (a.put o.dst v) w) : wpList P ops Q (o :: rest) a w := by
  refine wpList_plain hg fun K' hK' => ?_
  have hagg : (isAgg e).run P w = .ok false w := by
    unfold isAgg
    rw [Sem.run_bind, run_underlying he w]
    cases d <;> simp_all [isRowD, Result.andThen]
  have hpart : (part e cs (j * 1)).run P w = .ok v w := by
    unfold part
    simp [Sem.run_bind, hagg, Result.andThen, hv]
  have hin : (0 : Int) ≤ (j : Int) ∧ (j : Int) < (n : Int) := by omega
  have hidx : (Instr.index t (.agg cs) (.int k j)).run P w = .ok v w := by
    unfold Instr.index
    simp only [Sem.run_bind, asIntOf, Sem.run_pure, Result.andThen, run_underlying ht w, hin, and_self, if_true, sizeOf_of hs, Int.toNat_natCast, hpart]
  unfold Oper.wp execOp
  simp only [hop, hx, hi, Sem.run_bind, hidx, Result.andThen_ok, Sem.run_pure]
  exact hK' _ _ h
end

/-- an array of bytes that is filled from its beginning on -/
def fillB (l : List UInt8) (n : Nat) : Array Value := (bcs l ++ List.replicate (n - l.length) (Value.int .u8 0)).toArray

def FilledB (w : World) (b : Nat) (t : TypeId) (l : List UInt8) (n : Nat) : Prop := l.length ≤ n ∧ w.heap[b]? = some (.cells (fillB l n) t (0, 0))

section
variable {w w' : World} {b n : Nat} {t : TypeId} {l : List UInt8}

theorem FilledB.lt (h : FilledB w b t l n) : b < w.heap.size := (Array.getElem?_eq_some_iff.1 h.2).1
theorem FilledB.of_block (h : FilledB w b t l n) (hb : w'.heap[b]? = w.heap[b]?) : FilledB w' b t l n := ⟨h.1, hb.trans h.2⟩

theorem FilledB.free (h : FilledB w b t l n) {i : Nat} (hi : i < n) : (∃ v, w.cell? ⟨b, i, none⟩ = some v) ∧ w.frozen? ⟨b, i, none⟩ = false := by
  constructor
  · simp only [World.cell?, h.2, fillB]
    have hs : i < (bcs l ++ List.replicate (n - l.length) (Value.int .u8 0)).toArray.size := by
      have := h.1
      simp [bcs_length]
      omega
    exact ⟨_, by simp only [Option.isSome_none, Bool.false_eq_true, if_false]; exact Array.getElem?_eq_getElem hs⟩
  · simp [World.frozen?, h.2]

theorem FilledB.push (h : FilledB w b t l n) (hl : l.length < n) (x : UInt8) {i : Nat} (hi : i = l.length) : FilledB (w.setCell ⟨b, i, none⟩ (bv x)) b t (l ++ [x]) n := by
  subst hi
  refine ⟨by simp; omega, ?_⟩
  rw [setCell_eq_setRow w b l.length (fillB l n) t (0, 0) _ h.2, setRow_heap w b (fillB l n) _ t (0, 0) h.2]
  congr 2
  unfold fillB
  apply Array.ext'
  simp only [Array.toList_setIfInBounds, List.length_append, List.length_cons, List.length_nil, Nat.zero_add, bcs, List.map_append, List.map_cons, List.map_nil]
  obtain ⟨k, hk⟩ : ∃ k, n - l.length = k + 1 := ⟨n - l.length - 1, by omega⟩
  rw [hk, show n - (l.length + 1) = k by omega, List.replicate_succ, List.set_append_right _ _ (by simp)]
  simp

theorem FilledB.full (h : FilledB w b t l n) (hl : l.length = n) : w.heap[b]? = some (.cells (bcs l).toArray t (0, 0)) := by
  rw [h.2]
  unfold fillB
  rw [hl, Nat.sub_self]
  simp
end
end Go.Proofs.YtfoifdhcelcgiaaGreatDoor

/- sha.Of: a text's digest. -/
namespace Go.Proofs.YtfoifdhcelcgiaaGreatDoor
open Go Go.RowKit

def vlen : Value → Nat
  | .slice _ n _ => n
  | _ => 0

/-- how many noughts stand behind a text of this length, and the mark -/
def zc (n : Nat) : Nat := (119 - n % 64) % 64
/-- a number of 64 bits, the great bytes ahead -/
def be8 (m : Nat) : Nat → List UInt8
  | 0 => []
  | k + 1 => be8 m k ++ [UInt8.ofNat (m / 256 ^ (7 - k) % 256)]
theorem length_be8 (m : Nat) : ∀ k, (be8 m k).length = k
  | 0 => rfl
  | k + 1 => by rw [be8, List.length_append, length_be8 m k]; rfl
/-- a text, filled up to whole blocks -/
def padB (l : List UInt8) : List UInt8 := l ++ [128] ++ List.replicate (zc l.length) 0 ++ be8 (l.length * 8) 8
theorem length_padB (l : List UInt8) : (padB l).length % 64 = 0 := by
  unfold padB
  simp only [List.length_append, List.length_replicate, length_be8, List.length_cons, List.length_nil]
  unfold zc
  omega
/-- blocks are taken in -/
def soak (s : St) (l : List UInt8) : Nat → St
  | 0 => s
  | n + 1 => mixS ((l.drop (64 * n)).take 64) (soak s l n)
def lo8 (x : UInt32) : UInt8 := x.toUInt8
def wordB (x : UInt32) : List UInt8 := [lo8 (bShr 24 x), lo8 (bShr 16 x), lo8 (bShr 8 x), lo8 x]
def St.out (s : St) : List UInt8 := s.l.flatMap wordB
def shaB (l : List UInt8) : List UInt8 := (soak H0 (padB l) ((padB l).length / 64)).out
theorem length_out (s : St) : s.out.length = 32 := rfl
theorem length_shaB (l : List UInt8) : (shaB l).length = 32 := rfl

theorem idInfo : (Tryz.prog.info? 31).map (fun i => (i.zero, i.size)) = some (some (.agg (fillB [] 32)), 32) := by kernel_rfl
theorem info_two {t : TypeId} {Z : Value} {n : Nat} (h : (Tryz.prog.info? t).map (fun i => (i.zero, i.size)) = some (some Z, n)) : (∀ w, (zeroValue t).run Tryz.prog w = .ok Z w) ∧ (Tryz.prog.info? t).map (·.size) = some n := by
  cases hq : Tryz.prog.info? t with
  | none => simp [hq] at h
  | some i =>
    rw [hq] at h
    simp only [Option.map_some, Option.some.injEq, Prod.mk.injEq] at h
    exact ⟨fun w => by simp [zeroValue, typeInfo, hq, h.1], by simp [h.2]⟩

theorem o24 (x : UInt32) : Value.int .u8 ((x.toNat : Int) / 16777216 % 256) = bv (lo8 (bShr 24 x)) := by
  have h := r_shr24 x
  rw [h]; unfold bv lo8; congr 1
theorem o16 (x : UInt32) : Value.int .u8 ((x.toNat : Int) / 65536 % 256) = bv (lo8 (bShr 16 x)) := by
  have h := r_shr16 x
  rw [h]; unfold bv lo8; congr 1
theorem o8 (x : UInt32) : Value.int .u8 ((x.toNat : Int) / 256 % 256) = bv (lo8 (bShr 8 x)) := by
  have h := r_shr8 x
  rw [h]; unfold bv lo8; congr 1
theorem o0 (x : UInt32) : Value.int .u8 ((x.toNat : Int) % 256) = bv (lo8 x) := by
  unfold bv lo8; congr 1

theorem Tabs.of_grown {w w' : World} {b : Nat} (h : Tabs w) (hg : w.grownBy w' (some b)) (hb : 3 ≤ b) : Tabs w' := by
  have h3 := h.2.2
  have k2 := hg.block 2 (by omega) (fun e => by have := Option.some.inj e; omega)
  have k0 := hg.block 1 (by omega) (fun e => by have := Option.some.inj e; omega)
  exact ⟨fun i hi => (World.cell?_of_block (a := ⟨2, i, none⟩) k2).trans (h.1 i hi), h.2.1.of_block k0, by have := hg.size; omega⟩

theorem SrcAt.first {w : World} {A : Option Addr} {l : List UInt8} (h : SrcAt w A (bcs l)) (k : Nat) : SrcAt w A (bcs (l.take k)) := by
  have := SrcAt.take h k
  rwa [show (bcs l).take k = bcs (l.take k) by simp [bcs]] at this

theorem soak_out (s : St) (l : List UInt8) (n : Nat) : soak s l (n + 1) = mixS ((l.drop (64 * n)).take 64) (soak s l n) := rfl

set_option maxRecDepth 100000 in
set_option maxHeartbeats 2000000 in
theorem of_any (l : List UInt8) (w : World) (hT : Tabs w) (hl : l.length ≤ 17592186044416) :
    Calls Tryz.prog 115 #[txt l] w fun e w' => e = .returned (.agg (bcs (shaB l)).toArray) ∧ Below w.heap.size w w' := by
  obtain ⟨hz, hi⟩ := info_two idInfo
  obtain ⟨hi2, Z2, hz2, hz3⟩ := zero_of (P := Tryz.prog) stateInfo
  have h1 := hT.2.1
  have HT := Lib.hid hT
  have HZ := Lib.hid hz
  have HI := Lib.hid hi
  have H5 := Lib.hid hi2
  have H6 := Lib.hid hz2
  have H7 := Lib.hid hz3
  have H1 := Lib.hid (h1.of_block ((MapKept.heap_alloc w (.cells (fillB [] 32) 31)).2 _ (by have := hT.2.2; show 1 < _; omega)))
  clear hT hz hi hi2 hz2 hz3 h1
  go_enter Tryz.func115, Tryz.ntmps115
  go_upto_region 3 with (first
    | (refine wpList_allocZ _ rfl 31 rfl _ HZ.out ?_)
    | (refine wpList_loadAgg _ rfl 154 _ rfl _ Tryz.underlying154 rfl 1 0 rfl H0.cs (by kernel_rfl) H1.out ?_)
    | (refine wpList_allocZ _ rfl 155 rfl Z2 H6.out ?_)
    | (refine wpList_storeNew _ (w.alloc (.cells (fillB [] 32) 31)) rfl 155 _ _ rfl Z2.cells rfl rfl H0.cs.toArray rfl (by rw [H5.out]; rfl) (by rw [H7.out]; rfl) (by simp [St.cs, Value.oneCell']) ?_))
  obtain ⟨W0, hW0⟩ : ∃ W0, W0 = (w.alloc (.cells (fillB [] 32) 31)).alloc (.cells H0.cs.toArray 155) := ⟨_, rfl⟩
  have hB0 : Below w.heap.size w W0 := by rw [hW0]; exact ((Below.refl _ w).alloc (Nat.le_refl _) _).alloc (by simp) _
  have hS0 : W0.heap.size = w.heap.size + 2 := by rw [hW0]; simp
  have hd0 : W0.heap[w.heap.size]? = some (.cells (fillB [] 32) 31 (0, 0)) := by
    rw [hW0]
    exact ((MapKept.heap_alloc _ _).2 _ (by simp)).trans (MapKept.heap_alloc _ _).1
  have hh0 : W0.heap[w.heap.size + 1]? = some (.cells H0.cs.toArray 155 (0, 0)) := by
    rw [hW0]
    have := (MapKept.heap_alloc (w.alloc (.cells (fillB [] 32) 31)) (.cells H0.cs.toArray 155)).1
    simpa using this
  rw [← hW0]
  have HB0 := Lib.hid hB0
  have Hd0 := Lib.hid hd0
  have Hh0 := Lib.hid hh0
  have HS0 := Lib.hid hS0
  have hz0 : w.heap.size ≤ W0.heap.size := by omega
  clear hW0 hB0 hd0 hh0 hS0 H1
  go_wp2_with (first
    | (refine wpList_txt_bytes rfl _ _ _ rfl 5 Tryz.underlying9 Tryz.underlying108 Tryz.underlying5 l (by rfl) (by unfold maxLen; omega) ?_; intro cap2 w2 hown2 hb2 hs2; have G1 := Lib.hid hown2; have G2 := Lib.hid hb2; have G3 := hb2.size; clear hown2 hb2 hs2)
    | (at_builtin; refine wpList_byte _ _ _ _ _ 128 _ _ rfl rfl rfl rfl rfl G1.out rfl (by omega) (by omega) ?_; intro v3 w3 hown3 hg3; have G4 := Lib.hid hown3; have G5 := Lib.hid (below_grown (G2.out.alloc G3 _) hg3 (G1.out.alloc _) (by simp; omega)); clear hown3 hg3))
  go_loopw [5] (fun b wr => ∃ (k : Nat) (L : List UInt8), k ≤ zc l.length ∧ L = l ++ [128] ++ List.replicate k 0 ∧ Owns wr W0.heap.size 5 1 b L.length (bcs L) ∧ Below W0.heap.size W0 wr) (fun b _ => l.length + 100 - vlen b)
  case atStart => exact ⟨0, _, by omega, by simp, G4.out, G5.out⟩
  case round =>
    obtain ⟨k, L, hk, hL, hown, hbr⟩ := hrel
    obtain ⟨p, cap, rfl⟩ := hown.form
    have hlen : L.length = l.length + 1 + k := by rw [hL]; simp; omega
    have hzc : zc l.length ≤ 63 := by unfold zc; omega
    have hsz := hbr.size
    have K0 := Lib.hid hL
    have K1 := Lib.hid hown
    have K2 := Lib.hid hbr
    clear hL hown hbr
    by_cases hlt : k < zc l.length
    · have hmod : (L.length : Int) % 64 ≠ 56 := by unfold zc at hlt; omega
      have hm1 : ((L.length : Int) % 64 != 56) = true := by simpa using hmod
      have hlen1 := Nat.le_of_eq hlen
      have KL := Lib.hid hlen
      clear hlen hmod
      go_wp2_with (first | (at_builtin; refine wpList_byte _ _ _ _ _ 0 _ _ rfl rfl rfl rfl rfl K1.out rfl (by omega) (by omega) ?_; intro v4 w4 hown4 hg4))
      obtain ⟨p4, cap4, rfl⟩ := hown4.form
      have hb4 := below_grown (K2.out.alloc hsz _) hg4 (K1.out.alloc _) (by simp; omega)
      go_roundw
      case rel => exact ⟨k + 1, _, by omega, by rw [K0.out, List.replicate_succ']; simp, hown4, hb4⟩
      case measure => simp [vlen] <;> omega
    · obtain rfl : k = zc l.length := by omega
      have hmod : (L.length : Int) % 64 = 56 := by unfold zc at hlen; omega
      have hm1 : ((L.length : Int) % 64 != 56) = false := by simpa using hmod
      have hlen1 := Nat.le_of_eq hlen
      have KL := Lib.hid hlen
      clear hlen hmod
      go_wp2
      clear hm1
      go_loopw [5, 6] (fun b x wq => ∃ (j : Nat) (y : Int) (M : List UInt8), j ≤ 8 ∧ y + j = 7 ∧ x = .int .i64 y ∧ M = L ++ be8 (l.length * 8) j ∧ Owns wq W0.heap.size 5 1 b M.length (bcs M) ∧ Below W0.heap.size W0 wq) (fun _ x _ => (intOf x + 1).toNat)
      case atStart => exact ⟨0, 7, L, by omega, by omega, rfl, by simp [be8], K1.out, K2.out⟩
      case round =>
        obtain ⟨j, y, M, hj, hy, rfl, hM, hown, hbr⟩ := hrel
        obtain ⟨pM, capM, rfl⟩ := hown.form
        have hlenM : M.length = L.length + j := by rw [hM, List.length_append, length_be8]
        have hlm := Nat.le_of_eq hlenM
        have hszM := hbr.size
        have N0 := Lib.hid hM
        have N1 := Lib.hid hown
        have N2 := Lib.hid hbr
        have N3 := Lib.hid hlenM
        clear hM hown hbr hlenM
        by_cases hlt : j < 8
        · have hj8 : j = 0 ∨ j = 1 ∨ j = 2 ∨ j = 3 ∨ j = 4 ∨ j = 5 ∨ j = 6 ∨ j = 7 := by omega
          rcases hj8 with rfl | rfl | rfl | rfl | rfl | rfl | rfl | rfl
          · obtain rfl : y = 7 := by omega
            go_wp2_with (first | (at_builtin; refine wpList_byte _ _ _ _ _ (UInt8.ofNat (l.length * 8 / 72057594037927936 % 256)) _ _ (by rw [← byte_of]; first | (congr 1; omega) | simp) rfl rfl rfl rfl N1.out rfl (by omega) (by omega) ?_; intro v4 w4 hown4 hg4))
            have hb4 := below_grown (N2.out.alloc hszM _) hg4 (N1.out.alloc _) (by simp; omega)
            go_roundw
            case rel => exact ⟨1, 6, _, by omega, by omega, rfl, by rw [N0.out]; simp [be8], hown4, hb4⟩
            case measure => simp [intOf] <;> omega
          · obtain rfl : y = 6 := by omega
            go_wp2_with (first | (at_builtin; refine wpList_byte _ _ _ _ _ (UInt8.ofNat (l.length * 8 / 281474976710656 % 256)) _ _ (by rw [← byte_of]; first | (congr 1; omega) | simp) rfl rfl rfl rfl N1.out rfl (by omega) (by omega) ?_; intro v4 w4 hown4 hg4))
            have hb4 := below_grown (N2.out.alloc hszM _) hg4 (N1.out.alloc _) (by simp; omega)
            go_roundw
            case rel => exact ⟨2, 5, _, by omega, by omega, rfl, by rw [N0.out]; simp [be8], hown4, hb4⟩
            case measure => simp [intOf] <;> omega
          · obtain rfl : y = 5 := by omega
            go_wp2_with (first | (at_builtin; refine wpList_byte _ _ _ _ _ (UInt8.ofNat (l.length * 8 / 1099511627776 % 256)) _ _ (by rw [← byte_of]; first | (congr 1; omega) | simp) rfl rfl rfl rfl N1.out rfl (by omega) (by omega) ?_; intro v4 w4 hown4 hg4))
            have hb4 := below_grown (N2.out.alloc hszM _) hg4 (N1.out.alloc _) (by simp; omega)
            go_roundw
            case rel => exact ⟨3, 4, _, by omega, by omega, rfl, by rw [N0.out]; simp [be8], hown4, hb4⟩
            case measure => simp [intOf] <;> omega
          · obtain rfl : y = 4 := by omega
            go_wp2_with (first | (at_builtin; refine wpList_byte _ _ _ _ _ (UInt8.ofNat (l.length * 8 / 4294967296 % 256)) _ _ (by rw [← byte_of]; first | (congr 1; omega) | simp) rfl rfl rfl rfl N1.out rfl (by omega) (by omega) ?_; intro v4 w4 hown4 hg4))
            have hb4 := below_grown (N2.out.alloc hszM _) hg4 (N1.out.alloc _) (by simp; omega)
            go_roundw
            case rel => exact ⟨4, 3, _, by omega, by omega, rfl, by rw [N0.out]; simp [be8], hown4, hb4⟩
            case measure => simp [intOf] <;> omega
          · obtain rfl : y = 3 := by omega
            go_wp2_with (first | (at_builtin; refine wpList_byte _ _ _ _ _ (UInt8.ofNat (l.length * 8 / 16777216 % 256)) _ _ (by rw [← byte_of]; first | (congr 1; omega) | simp) rfl rfl rfl rfl N1.out rfl (by omega) (by omega) ?_; intro v4 w4 hown4 hg4))
            have hb4 := below_grown (N2.out.alloc hszM _) hg4 (N1.out.alloc _) (by simp; omega)
            go_roundw
            case rel => exact ⟨5, 2, _, by omega, by omega, rfl, by rw [N0.out]; simp [be8], hown4, hb4⟩
            case measure => simp [intOf] <;> omega
          · obtain rfl : y = 2 := by omega
            go_wp2_with (first | (at_builtin; refine wpList_byte _ _ _ _ _ (UInt8.ofNat (l.length * 8 / 65536 % 256)) _ _ (by rw [← byte_of]; first | (congr 1; omega) | simp) rfl rfl rfl rfl N1.out rfl (by omega) (by omega) ?_; intro v4 w4 hown4 hg4))
            have hb4 := below_grown (N2.out.alloc hszM _) hg4 (N1.out.alloc _) (by simp; omega)
            go_roundw
            case rel => exact ⟨6, 1, _, by omega, by omega, rfl, by rw [N0.out]; simp [be8], hown4, hb4⟩
            case measure => simp [intOf] <;> omega
          · obtain rfl : y = 1 := by omega
            go_wp2_with (first | (at_builtin; refine wpList_byte _ _ _ _ _ (UInt8.ofNat (l.length * 8 / 256 % 256)) _ _ (by rw [← byte_of]; first | (congr 1; omega) | simp) rfl rfl rfl rfl N1.out rfl (by omega) (by omega) ?_; intro v4 w4 hown4 hg4))
            have hb4 := below_grown (N2.out.alloc hszM _) hg4 (N1.out.alloc _) (by simp; omega)
            go_roundw
            case rel => exact ⟨7, 0, _, by omega, by omega, rfl, by rw [N0.out]; simp [be8], hown4, hb4⟩
            case measure => simp [intOf] <;> omega
          · obtain rfl : y = 0 := by omega
            go_wp2_with (first | (at_builtin; refine wpList_byte _ _ _ _ _ (UInt8.ofNat (l.length * 8 / 1 % 256)) _ _ (by rw [← byte_of]; first | (congr 1; omega) | simp) rfl rfl rfl rfl N1.out rfl (by omega) (by omega) ?_; intro v4 w4 hown4 hg4))
            have hb4 := below_grown (N2.out.alloc hszM _) hg4 (N1.out.alloc _) (by simp; omega)
            go_roundw
            case rel => exact ⟨8, -1, _, by omega, by omega, rfl, by rw [N0.out]; simp [be8], hown4, hb4⟩
            case measure => simp [intOf] <;> omega
        · obtain rfl : j = 8 := by omega
          obtain rfl : y = -1 := by omega
          have hpad : M = padB l := by rw [N0.out, K0.out]; rfl
          have hML : M.length % 64 = 0 := by rw [hpad]; exact length_padB l
          have NP := Lib.hid hpad
          obtain ⟨q, hq⟩ : ∃ q, M.length = 64 * q := ⟨M.length / 64, by omega⟩
          have NQ := Lib.hid hq
          have hh1 : wr.heap[w.heap.size + 1]? = some (.cells H0.cs.toArray 155 (0, 0)) := (N2.out.block _ (by have := HS0.out; omega)).trans Hh0.out
          have hd1 : wr.heap[w.heap.size]? = some (.cells (fillB [] 32) 31 (0, 0)) := (N2.out.block _ (by have := HS0.out; omega)).trans Hd0.out
          have hT1 : Tabs wr := (HT.out.of_below HB0.out HT.out.2.2).of_below N2.out (by have := HS0.out; have := HT.out.2.2; omega)
          have hbw : Below w.heap.size w wr := HB0.out.trans (N2.out.mono hz0)
          have h3w := HT.out.2.2
          have P1 := Lib.hid hh1
          have P2 := Lib.hid hd1
          have P3 := Lib.hid hT1
          have P4 := Lib.hid hbw
          have hcap := N1.out.cap_le
          have hsrc := N1.out.src
          have hspot := N1.out.spot
          have hat : ∀ b off, pM = some ⟨b, off, none⟩ → b < wr.heap.size ∧ w.heap.size + 1 < b := fun b off e => by
            have h1 := N1.out.at e
            have h2 := HS0.out
            exact ⟨h1.2.1, by omega⟩
          have P5 := Lib.hid hsrc
          have P6 := Lib.hid hspot
          have P7 := Lib.hid hat
          clear hh1 hd1 hT1 hbw hsrc hspot hat hpad hML hq hlt
          go_wp2
          go_loopw [5] (fun b wz => ∃ (n : Nat) (p' : Option Addr) (m c : Nat), n ≤ q ∧ b = .slice p' m c ∧ m + 64 * n = M.length ∧ m ≤ c ∧ SrcAt wz p' (bcs (M.drop (64 * n))) ∧ (∀ a, p' = some a → a.spot = none) ∧ (∀ b off, p' = some ⟨b, off, none⟩ → b < wr.heap.size ∧ w.heap.size + 1 < b) ∧ wz.heap[w.heap.size + 1]? = some (.cells (soak H0 M n).cs.toArray 155 (0, 0)) ∧ wr.grownBy wz (some (w.heap.size + 1))) (fun b _ => vlen b)
          case atStart => exact ⟨0, pM, M.length, capM, by omega, rfl, by omega, hcap.1, by rw [Nat.mul_zero, List.drop_zero]; exact P5.out, P6.out, P7.out, P1.out, World.grownBy.refl _ _⟩
          case round =>
            obtain ⟨n, p', m, c, hn, rfl, hm, hmc, hsr, hsp, hp', hst, hg⟩ := hrel
            have hq := NQ.out
            have hmq : m = 64 * (q - n) := by omega
            have hc63 := hcap.2
            unfold maxLen at hc63
            by_cases hlt : n < q
            · have hm0 : 64 ≤ m := by omega
              have hdl : (M.drop (64 * n)).length = m := by rw [List.length_drop]; omega
              obtain ⟨c0, hc0, -, -⟩ := byte_at (l := M.drop (64 * n)) (j := 0) (by omega)
              obtain ⟨g, off, rfl, hcell0⟩ := hsr 0 _ hc0
              have hgp := hp' g off rfl
              have e1 : soak H0 M (n + 1) = mixS ((M.drop (64 * n)).take 64) (soak H0 M n) := rfl
              have E1 := Lib.hid e1
              have hT3 := P3.out.of_grown hg (by omega)
              have hgs := hg.size
              have Q1 := Lib.hid hsr
              have Q2 := Lib.hid hsp
              have Q3 := Lib.hid hp'
              have Q4 := Lib.hid hst
              have Q5 := Lib.hid hg
              have Q6 := Lib.hid hT3
              have Q7 := Lib.hid hm
              have Q8 := Lib.hid hmq
              have Q9 := Lib.hid hdl
              clear e1 hsr hsp hp' hst hg hT3 hm hmq hdl hc0 hcell0 hq
              go_wp2_with (first
                | (go_at_call 128; refine (mix_any _ g off _ ((M.drop (64 * n)).take 64) _ _ Q4.out (Q1.out.first 64) (by omega) (by rw [List.length_take, Q9.out]; omega) Q6.out).mono ?_; rintro e w5 ⟨rfl, hst5, hg5⟩; have Q10 := Lib.hid hst5; have Q11 := Lib.hid (grownBy_trans Q5.out hg5); clear hst5 hg5))
              have hsr5 : SrcAt w5 (some ⟨g, off, none⟩) (bcs (M.drop (64 * n))) := Q1.out.of_block fun b o e => by
                cases e
                have h1 := Q11.out.block g hgp.1 (fun e => by cases e; omega)
                have h2 := Q5.out.block g hgp.1 (fun e => by cases e; omega)
                exact h1.trans h2.symm
              have hdd : M.drop (64 * (n + 1)) = (M.drop (64 * n)).drop 64 := by rw [List.drop_drop]; congr 1
              have hq7 := Q7.out
              have hq8 := Q8.out
              go_roundw
              case rel =>
                refine ⟨n + 1, _, _, _, by omega, rfl, by omega, by omega, ?_, ?_, ?_, by rw [E1.out]; exact Q10.out, Q11.out⟩
                · rw [hdd]
                  by_cases hc : c = 64
                  · have h0 : (M.drop (64 * n)).drop 64 = [] := List.eq_nil_of_length_eq_zero (by rw [List.length_drop, Q9.out]; omega)
                    rw [h0]
                    exact SrcAt.nil _ _
                  · rw [if_neg hc]
                    have := SrcAt.drop hsr5 64
                    rwa [show (bcs (M.drop (64 * n))).drop 64 = bcs ((M.drop (64 * n)).drop 64) by simp [bcs]] at this
                · intro a ha
                  split at ha <;> (cases ha; rfl)
                · intro b o e
                  split at e <;> (cases e; exact hgp)
              case measure => simp [vlen] <;> omega
            · obtain rfl : n = q := by omega
              have hT3 := P3.out.of_grown hg (by omega)
              have hd3 := (hg.block _ (Array.getElem?_eq_some_iff.1 P2.out).1 (fun e => by have := Option.some.inj e; omega)).trans P2.out
              have hbel : Below w.heap.size w wr := P4.out.grown hg P4.out.size (fun k e => by cases e; omega)
              have hsz3 := hg.size
              have hcs : cellsAt wr (w.heap.size + 1) 0 (soak H0 M n).cs := fun j u hj => by rw [cell_of_row _ _ _ _ _ _ hst, Nat.zero_add]; simpa using hj
              have hfin : shaB l = (soak H0 M n).out := by
                unfold shaB
                rw [← NP.out, NQ.out, Nat.mul_div_cancel_left _ (by omega)]
              have hm0 : m = 0 := by omega
              generalize soak H0 M n = sf at hst hcs hfin
              have Q1 := Lib.hid hst
              have Q2 := Lib.hid hd3
              have Q3 := Lib.hid hbel
              have Q4 := Lib.hid hcs
              have Q5 := Lib.hid hfin
              subst hm0
              clear hsr hsp hp' hst hg hT3 hm hmq hq hd3 hbel hcs hfin
              go_upto_region 14 with (first
                | (refine wpList_allocZ _ rfl 31 rfl _ HZ.out ?_))
              have hcs2 : cellsAt (wr.alloc (.cells (fillB [] 32) 31)) (w.heap.size + 1) 0 sf.cs := Q4.out.of_block ((MapKept.heap_alloc _ _).2 _ (Array.getElem?_eq_some_iff.1 Q1.out).1)
              have hfl : FilledB (wr.alloc (.cells (fillB [] 32) 31)) wr.heap.size 31 [] 32 := ⟨by simp, (MapKept.heap_alloc _ _).1⟩
              have Q6 := Lib.hid hcs2
              have Q7 := Lib.hid hfl
              have hsw := Q3.out.size
              clear hcs2 hfl
              go_wp2_with (first
                | (refine wpList_loadAgg _ rfl 155 _ rfl _ Tryz.underlying155 rfl (w.heap.size + 1) 0 rfl sf.cs (by rw [H5.out]; rfl) Q6.out ?_))
              go_loopw [47] (fun i wz => ∃ n : Nat, n ≤ 8 ∧ i = .int .i64 n ∧ FilledB wz wr.heap.size 31 ((sf.l.take n).flatMap wordB) 32 ∧ Below wr.heap.size wr wz) (fun i _ => 8 - (intOf i).toNat)
              case atStart => exact ⟨0, by omega, rfl, Q7.out, (Below.refl _ wr).alloc (Nat.le_refl _) _⟩
              case round =>
                obtain ⟨n, hn, rfl, hf, hbz⟩ := hrel
                by_cases hlt : n < 8
                · obtain ⟨x, hx1, hx2⟩ : ∃ x, sf.l[n]? = some x ∧ sf.l.take (n + 1) = sf.l.take n ++ [x] := ⟨sf.l[n]'(by show n < 8; exact hlt), by simp, List.take_succ_eq_append_getElem (by show n < 8; exact hlt)⟩
                  have hv : (sf.cs.toArray)[n]? = some (vw x) := by rw [St.cs_l]; simp [hx1]
                  have hfl : ((sf.l.take n).flatMap wordB).length = 4 * n := by
                    have : ∀ l : List UInt32, (l.flatMap wordB).length = 4 * l.length := fun l => by
                      induction l with
                      | nil => rfl
                      | cons a l ih => simp only [List.flatMap_cons, List.length_append, List.length_cons, ih]; simp [wordB]; omega
                    rw [this, List.length_take, show sf.l.length = 8 from rfl]
                    omega
                  obtain ⟨⟨z0, f0⟩, g0⟩ := hf.free (i := 4 * n) (by omega)
                  obtain ⟨⟨z1, f1⟩, g1⟩ := hf.free (i := 4 * n + 1) (by omega)
                  obtain ⟨⟨z2, f2⟩, g2⟩ := hf.free (i := 4 * n + 2) (by omega)
                  obtain ⟨⟨z3, f3⟩, g3⟩ := hf.free (i := 4 * n + 3) (by omega)
                  have R1 := hf.push (by omega) (lo8 (bShr 24 x)) (i := 4 * n) (by omega)
                  have R2 := R1.push (by simp only [List.length_append, hfl, List.length_cons, List.length_nil]; omega) (lo8 (bShr 16 x)) (i := 4 * n + 1) (by simp only [List.length_append, hfl, List.length_cons, List.length_nil])
                  have R3 := R2.push (by simp only [List.length_append, hfl, List.length_cons, List.length_nil]; omega) (lo8 (bShr 8 x)) (i := 4 * n + 2) (by simp only [List.length_append, hfl, List.length_cons, List.length_nil])
                  have R4 := R3.push (by simp only [List.length_append, hfl, List.length_cons, List.length_nil]; omega) (lo8 x) (i := 4 * n + 3) (by simp only [List.length_append, hfl, List.length_cons, List.length_nil])
                  have hcat : (sf.l.take (n + 1)).flatMap wordB = (sf.l.take n).flatMap wordB ++ [lo8 (bShr 24 x)] ++ [lo8 (bShr 16 x)] ++ [lo8 (bShr 8 x)] ++ [lo8 x] := by rw [hx2]; simp [wordB]
                  rw [← hcat] at R4
                  have T1 := Lib.hid R4
                  have T2 := Lib.hid hbz
                  have T3 := Lib.hid hv
                  clear hx1 hx2 hfl R1 R2 R3 R4 hcat hf hbz hv
                  go_wp2_with (first
                    | (refine wpList_indexOne rfl 155 _ _ rfl 8 129 Tryz.underlying155 _ Tryz.underlying129 rfl (by kernel_rfl) sf.cs.toArray (by rfl) .i64 n (by rfl) hlt (vw x) T3.out ?_))
                  rw [o24, o16, o8, o0]
                  go_roundw
                  case rel => exact ⟨n + 1, by omega, by go_num, T1.out, (((T2.out.setCell (Nat.le_refl _) _).setCell (Nat.le_refl _) _).setCell (Nat.le_refl _) _).setCell (Nat.le_refl _) _⟩
                  case measure => simp [intOf] <;> omega
                · obtain rfl : n = 8 := by omega
                  have hfull := hf.full (by rfl)
                  rw [show sf.l.take 8 = sf.l from rfl] at hfull
                  have hout : sf.l.flatMap wordB = shaB l := by rw [Q5.out]; rfl
                  rw [hout] at hfull
                  have hcd : cellsAt wr _ 0 (bcs (shaB l)) := fun j u hj => by rw [cell_of_row _ _ _ _ _ _ hfull, Nat.zero_add]; simpa using hj
                  have hdd := (hbz.block _ (Array.getElem?_eq_some_iff.1 Q2.out).1).trans Q2.out
                  have hl32 : (bcs (shaB l)).length = 32 := by rw [bcs_length, length_shaB]
                  have T1 := Lib.hid hcd
                  have T2 := Lib.hid hdd
                  have T3 := Lib.hid hl32
                  have T4 := Lib.hid hbz
                  have T5 := Lib.hid (bcs_one (shaB l))
                  clear hf hbz hfull hout hcd hdd hl32
                  go_wp2_with (first
                    | (refine wpList_loadAgg _ rfl 31 _ rfl _ Tryz.underlying31 rfl _ 0 (by rfl) (bcs (shaB l)) (by rw [HI.out, T3.out]) T1.out ?_)
                    | (refine wpList_storeRow rfl 31 _ _ rfl T2.out (by rfl) (bcs (shaB l)).toArray (by rfl) (by rw [HI.out, List.size_toArray, T3.out]) (by show 32 = (bcs (shaB l)).length; exact T3.out.symm) (by simpa using T5.out) ?_; intro w6 hw6 hg6 hs6))
                  have hcf : cellsAt w6 w.heap.size 0 (bcs (shaB l)) := fun j u hj => by rw [cell_of_row _ _ _ _ _ _ hw6, Nat.zero_add]; simpa using hj
                  have hbf : Below w.heap.size w w6 := (Q3.out.trans (T4.out.mono hsw)).grown hg6 (by have := T4.out.size; omega) (fun k e => by have := Option.some.inj e; omega)
                  refine bodyPost_ret (results_cell rfl (by rfl) (run_loadAgg Tryz.underlying31 rfl (by rw [HI.out, T3.out]) hcf)) rfl ⟨rfl, hbf⟩
end Go.Proofs.YtfoifdhcelcgiaaGreatDoor

/- tribunalref02.known: the two tables as slices; sha.Sum. -/
namespace Go.Proofs.YtfoifdhcelcgiaaGreatDoor
open Go Go.RowKit

def wcs (l : List UInt32) : List Value := l.map vw

theorem heap_alloc2 (w : World) (o1 o2 : Obj) : ((w.alloc o1).alloc o2).heap[w.heap.size + 1]? = some o2 := by
  have := (MapKept.heap_alloc (w.alloc o1) o2).1
  rwa [World.size_alloc] at this

set_option maxRecDepth 100000 in
set_option maxHeartbeats 1000000 in
theorem known_any (w : World) :
    Calls Tryz.prog 102 #[] w fun e w' => ∃ b c, e = .returned (.tuple #[.slice (some ⟨b, 0, none⟩) 8 8, .slice (some ⟨c, 0, none⟩) 64 64]) ∧
      w'.heap[b]? = some (.cells (wcs H0.l).toArray 129 (0, 0)) ∧ w'.heap[c]? = some (.cells (wcs KT).toArray 129 (0, 0)) ∧ w.heap.size ≤ b ∧ w.heap.size ≤ c ∧ b ≠ c ∧ Below w.heap.size w w' := by
  go_enter Tryz.func102, Tryz.ntmps102
  go_wp2
  go_ret2
  refine ⟨_, _, rfl, ?_, ?_, ?_, ?_, ?_, ?_⟩
  · exact ((MapKept.heap_alloc _ _).2 _ (by simp)).trans (MapKept.heap_alloc _ _).1
  · exact heap_alloc2 _ _ _
  · omega
  · omega
  · omega
  · exact ((Below.refl _ w).alloc (Nat.le_refl _) _).alloc (by simp) _
end Go.Proofs.YtfoifdhcelcgiaaGreatDoor

/- sha.Sum: the digest of the packed list (purpose :: parts). -/
namespace Go.Proofs.YtfoifdhcelcgiaaGreatDoor
open Go Go.RowKit

theorem strInfo : (Tryz.prog.info? 9).map (fun i => (i.zero, i.size, i.bytes)) = some (some (.string ⟨#[]⟩), 1, 16) := by kernel_rfl

theorem scs_length (l : List (List UInt8)) : (scs l).length = l.length := by simp [scs]
theorem scs_one (l : List (List UInt8)) : ∀ u ∈ scs l, u.oneCell' = true := fun u hu => by
  obtain ⟨s, _, rfl⟩ := List.mem_map.1 hu
  rfl

theorem owns_one (w : World) (t : TypeId) (v : Value) : Owns (w.alloc (.cells #[v] t)) w.heap.size t 1 (.slice (some ⟨w.heap.size, 0, none⟩) 1 1) 1 [v] :=
  ⟨rfl, .inr ⟨w.heap.size, 1, #[v], (0, 0), rfl, Nat.le_refl _, (MapKept.heap_alloc _ _).1, ⟨.inl (Nat.zero_le _), fun _ => rfl⟩, Nat.le_refl _, by unfold maxLen; omega, rfl, rfl⟩⟩

def sumB (a : List UInt8) (l : List (List UInt8)) : List UInt8 := shaB (listB (a :: l))
theorem length_sumB (a : List UInt8) (l : List (List UInt8)) : (sumB a l).length = 32 := rfl

/-- the size of a packed list -/
theorem listB_small {a : List UInt8} {l : List (List UInt8)} (ha : a.length ≤ 64) (hn : l.length ≤ 1099511627) (hb : bytesOf l ≤ 1099511627) :
    (a :: l).length ≤ 1099511627776 ∧ bytesOf (a :: l) ≤ 8796093022208 ∧ (listB (a :: l)).length ≤ 17592186044416 := by
  have h1 : bytesOf (a :: l) = a.length + bytesOf l := by simp [bytesOf]
  have h2 := length_listB (a :: l)
  have h3 : ((a :: l).map List.length).sum = bytesOf (a :: l) := rfl
  rw [h3] at h2
  simp only [List.length_cons] at h2 ⊢
  refine ⟨by omega, by omega, by omega⟩

set_option maxRecDepth 100000 in
set_option maxHeartbeats 4000000 in
theorem sum_any (a : List UInt8) (p : Option Addr) (cap : Nat) (l : List (List UInt8)) (w : World) (hT : Tabs w) (hs : SrcAt w p (scs l)) (hB : ∀ b off, p = some ⟨b, off, none⟩ → b < w.heap.size) (hA : ∀ a, p = some a → a.spot = none) (ha : a.length ≤ 64) (hn : l.length ≤ 1099511627) (hb : bytesOf l ≤ 1099511627) :
    Calls Tryz.prog 82 #[txt a, .slice p l.length cap] w fun e w' => e = .returned (.agg (bcs (sumB a l)).toArray) ∧ Below w.heap.size w w' := by
  obtain ⟨i0, hi, hz0, hz1, hz2⟩ := info_parts strInfo
  obtain ⟨hz, hid⟩ := info_two idInfo
  obtain ⟨k1, k2, k3⟩ := listB_small ha hn hb
  obtain ⟨L, hL⟩ : ∃ L, L = a :: l := ⟨_, rfl⟩
  rw [← hL] at k1 k2 k3
  have hlen : 1 + l.length = L.length := by rw [hL, List.length_cons]; omega
  have HL := Lib.hid hL
  clear hL
  have HZ := Lib.hid hz
  have HI := Lib.hid hid
  have H1 := Lib.hid hs
  have H2 := Lib.hid hB
  have H3 := Lib.hid hT
  have HA := Lib.hid hA
  clear hz hid hs hB hT hA
  have S1 := Lib.hid (show SrcAt ((w.alloc (.cells (fillB [] 32) 31)).alloc (.cells #[txt a] 9)) p (scs l) from
    (H1.out.below H2.out ((Below.refl _ w).alloc (Nat.le_refl _) _)).below (fun b off e => Nat.lt_succ_of_lt (H2.out b off e)) ((Below.refl (w.heap.size + 1) _).alloc (by simp) _))
  have O1 := Lib.hid (show Owns ((w.alloc (.cells (fillB [] 32) 31)).alloc (.cells #[txt a] 9)) (w.heap.size + 1) 9 1 (.slice (some ⟨w.heap.size + 1, 0, none⟩) 1 1) 1 [txt a] by
    have := owns_one (w.alloc (.cells (fillB [] 32) 31)) 9 (txt a)
    simpa using this)
  go_enter Tryz.func82, Tryz.ntmps82
  go_wp2_with (first
    | (refine wpList_allocZ _ rfl 31 rfl _ HZ.out ?_)
    | (refine wpList_append_G rfl _ _ 51 rfl (w.heap.size + 1) 9 i0 _ 1 16 Tryz.underlying51 hi hz0 hz1 hz2 (by rfl) (by omega) _ 1 [txt a] (by rfl) O1.out p l.length cap (scs l) (by rfl) (by rw [scs_length, Nat.mul_one]) S1.out HA.out (scs_one l) (by unfold maxLen; omega) (by omega) (by simp) ?_; intro v2 w2 hv2 hg2 hs2; rw [hlen] at hv2; obtain ⟨q, c2, rfl⟩ := hv2.form)
    )
  have hb2 : Below w.heap.size w w2 := below_grown (((Below.refl _ w).alloc (Nat.le_refl _) _).alloc (by simp) _) hg2 (O1.out.down (by omega)) (by simp; omega)
  have hz2' := hb2.size
  have hgz := hg2.size
  simp only [World.size_alloc] at hgz
  have hd2 : w2.heap[w.heap.size]? = some (.cells (fillB [] 32) 31 (0, 0)) :=
    (hg2.block _ (by simp; omega) (fun e => by have : w.heap.size = w.heap.size + 1 := Option.some.inj e; omega)).trans (((MapKept.heap_alloc _ _).2 _ (by simp)).trans (MapKept.heap_alloc _ _).1)
  have hsrc : SrcAt w2 q (scs L) := by
    have := hv2.src
    rw [HL.out]
    exact this
  have hQ : ∀ b off, q = some ⟨b, off, none⟩ → w.heap.size ≤ b ∧ b < w2.heap.size := fun b off e => ⟨by have := (hv2.at e).1; omega, (hv2.at e).2.1⟩
  refine (list_any q c2 L w2 hsrc (fun b off e => (hQ b off e).2) (by omega) (by omega)).mono ?_
  rintro e w3 ⟨rfl, hb3⟩
  have hT3 : Tabs w3 := (H3.out.of_below hb2 H3.out.2.2).of_below (hb3.mono hz2') H3.out.2.2
  obtain ⟨LL, hLL⟩ : ∃ LL, LL = listB L := ⟨_, rfl⟩
  rw [← hLL]
  have T1 := Lib.hid (hb2.trans (hb3.mono hz2'))
  have T2 := Lib.hid hLL
  have T3 := Lib.hid hT3
  have k4 : LL.length ≤ 17592186044416 := by rw [hLL]; exact k3
  have T4 := Lib.hid ((hb3.block _ (by omega)).trans hd2)
  have hz3 := hb3.size
  clear hb2 hb3 hLL hT3 hd2 hsrc hQ hv2 hg2 hs2
  go_wp2_with fail
  refine (of_any LL w3 T3.out (by omega)).mono ?_
  rintro e w4 ⟨rfl, hb4⟩
  have T5 := Lib.hid (T1.out.trans (hb4.mono (by omega)))
  have T6 := Lib.hid ((hb4.block _ (by omega)).trans T4.out)
  obtain ⟨DD, hDD⟩ : ∃ DD, DD = shaB LL := ⟨_, rfl⟩
  rw [← hDD]
  have hd32 : (bcs DD).length = 32 := by rw [hDD, bcs_length, length_shaB]
  have T7 := Lib.hid hd32
  have T8 := Lib.hid hDD
  clear hDD hb4 hd32
  go_wp2_with (first
    | (refine wpList_storeRow rfl 31 _ _ rfl T6.out (by rfl) (bcs DD).toArray (by rfl) (by rw [HI.out, List.size_toArray, T7.out]) (by show 32 = (bcs DD).length; exact T7.out.symm) (by simpa using bcs_one DD) ?_; intro w6 hw6 hg6 hs6))
  have hcf : cellsAt w6 w.heap.size 0 (bcs DD) := fun j u hj => by rw [cell_of_row _ _ _ _ _ _ hw6, Nat.zero_add]; simpa using hj
  have hbf : Below w.heap.size w w6 := T5.out.grown hg6 (by have := T5.out.size; omega) (fun k e => by have := Option.some.inj e; omega)
  have hfin : DD = sumB a l := by rw [T8.out, T2.out, HL.out]; rfl
  refine bodyPost_ret (results_cell rfl (by rfl) (run_loadAgg Tryz.underlying31 rfl (by rw [HI.out, T7.out]) hcf)) rfl ⟨by rw [hfin], hbf⟩
end Go.Proofs.YtfoifdhcelcgiaaGreatDoor

/- A REGION THAT DRAWS ITS ORDER, WHOSE LAST OPERATIONS MAY WRITE WHAT IT LOADS: a condition S on the world holds till the first n operations have come up; up to there what only reads may be taken first; the operations from n on wait for all of these, and nothing is asked of S behind them. -/
namespace Go.Proofs.YtfoifdhcelcgiaaGreatDoor
open Go

section
variable {P : Program} {ops : Array Oper} {Q : Exit → Act → World → Prop} {md : Region.Mode} {S : World → Prop} {n : Nat}

def upB (n : Nat) (listed : Array Bool) : Bool := (List.range n).all fun i => listed.getD i true

def wpTill (P : Program) (md : Region.Mode) (ops : Array Oper) (Q : Exit → Act → World → Prop) (S : World → Prop) (n : Nat) : Nat → Array Bool → Act → World → Prop
  | 0, listed, a, w => wpAny P md ops Q 0 listed a w
  | fuel + 1, listed, a, w =>
    if upB n listed = true then wpAny P md ops Q (fuel + 1) listed a w else
      (Region.ready md ops listed = [] → Q .normal a w) ∧
      ∀ i ∈ Region.ready md ops listed, wpOp P ops Q i (fun a' w' => S w' ∧ wpTill P md ops Q S n fuel (listed.setIfInBounds i true) a' w') a w

theorem wpAny_of_till : ∀ (fuel : Nat) (listed : Array Bool) (a : Act) (w : World), wpTill P md ops Q S n fuel listed a w → wpAny P md ops Q fuel listed a w
  | 0, _, _, _, h => h
  | fuel + 1, listed, a, w, h => by
    unfold wpTill at h
    split at h
    · exact h
    · exact ⟨h.1, fun i hi => wpOp_mono (fun a' w' h' => wpAny_of_till fuel _ a' w' h'.2) (h.2 i hi)⟩

theorem upB_at {i : Nat} {listed : Array Bool} (hi : i < n) (h : listed.getD i true = false) : ¬ upB n listed = true := fun hu => by
  have := List.all_eq_true.1 hu i (List.mem_range.2 hi)
  rw [h] at this
  cases this

/-- the operations from n on wait for all the others -/
structure Waits (md : Region.Mode) (ops : Array Oper) (n : Nat) : Prop where
  sink : Region.sinkB md ops n = true
  chain : Region.chainB md ops n = true
  lt : n < ops.size

theorem wpTill_first {i : Nat} {oi : Oper} {v : Value} (hW : Waits md ops n) (hi : ops[i]? = some oi) (hid : i < n) (hsel : ∀ (j : Nat) (o : Oper) cs b, ops[j]? = some o → o.op ≠ .select cs b)
    (hQ : ∀ c a w, Q (.panic c) (a.put oi.dst v) w → Q (.panic c) a w) : ∀ (fuel : Nat) (listed : Array Bool) (a : Act) (w : World), HeadInv md ops n listed →
      (∀ j oj, ops[j]? = some oj → j ≠ i → listed.getD j true = false → (∀ e ∈ oj.after, Region.binds md e = true → e.on ≠ i) → oi.apart ops oj = true) →
      i ∈ Region.ready md ops listed → YieldsIf P ops S oi v a → S w →
      wpTill P md ops Q S n fuel (listed.setIfInBounds i true) (a.put oi.dst v) w → wpTill P md ops Q S n (fuel + 1) listed a w := by
  intro fuel
  induction fuel with
  | zero =>
    intro listed a w _ _ hr hy hS H
    have hun := (mem_ready.1 hr).1
    unfold wpTill
    rw [if_neg (upB_at hid hun)]
    refine ⟨fun h => (by rw [h] at hr; cases hr), fun j hj => ?_⟩
    by_cases hji : j = i
    · subst hji; exact hy.wpOp hi hS ⟨hS, H⟩
    · have h1 := ready_mono hj hji
      have h2 : Region.ready md ops (listed.setIfInBounds i true) = [] := H.1
      rw [h2] at h1
      cases h1
  | succ fuel ih =>
    intro listed a w inv hfree hr hy hS H
    have hun := (mem_ready.1 hr).1
    unfold wpTill
    rw [if_neg (upB_at hid hun)]
    refine ⟨fun h => (by rw [h] at hr; cases hr), fun j hj => ?_⟩
    by_cases hji : j = i
    · subst hji; exact hy.wpOp hi hS ⟨hS, H⟩
    have hjn : j < n := by
      rcases Nat.lt_or_ge j n with h | h
      · exact h
      · exact absurd hj (tail_waits hW.sink hW.chain hW.lt inv _ i rfl hid hun j h)
    obtain ⟨hjun, oj, hoj, hall⟩ := mem_ready.1 hj
    have hnot : ∀ e ∈ oj.after, Region.binds md e = true → e.on ≠ i := fun e he hb heq => by
      have h1 := hall e he hb
      rw [heq, getD_both hun] at h1
      cases h1
    have hfree' : ∀ k ok, ops[k]? = some ok → k ≠ i → (listed.setIfInBounds j true).getD k true = false →
        (∀ e ∈ ok.after, Region.binds md e = true → e.on ≠ i) → oi.apart ops ok = true := fun k ok hk hki hu hno => by
      refine hfree k ok hk hki ?_ hno
      by_cases hjk : j = k
      · subst hjk; exact hjun
      · rw [getD_set_ne true hjk] at hu; exact hu
    -- i is not the last of the first n: j has not come up
    have hnup : ¬ upB n (listed.setIfInBounds i true) = true := upB_at hjn (by rw [getD_set_ne true (Ne.symm hji)]; exact hjun)
    unfold wpTill at H
    rw [if_neg hnup] at H
    have h1 := H.2 j (ready_mono hj hji)
    have h2 := wpOp_putIf hoj (hfree j oj hoj hji hjun hnot) (fun cs b => hsel i oi cs b hi) (fun cs b => hsel j oj cs b hoj) hQ hy h1
    refine wpOp_mono (fun a' w' h3 => ⟨h3.2.1, ih (listed.setIfInBounds j true) a' w' (inv.set hj hjn) hfree' (ready_mono hr (Ne.symm hji)) h3.1 h3.2.1 ?_⟩) h2
    rw [Array.setIfInBounds_comm _ _ hji]
    exact h3.2.2

/-! ### the moves -/
/-- it hands back a value, if it comes to an end -/
def valueB : Op → Bool
  | .move _ | .assign _ | .pick .. | .load .. | .nilCheck _ | .binOp .. | .unOp .. | .convert .. | .slice .. | .fieldAddr .. | .field .. | .indexAddr .. | .index .. | .lookup .. | .extract .. => true
  | _ => false

def OnlyValue (P : Program) (s : Sem Next) : Prop := ∀ (w : World) (m : Next) (w' : World), s.run P w = .ok m w' → ∃ u, m = .value u

theorem OnlyValue.pure (u : Value) : OnlyValue P (Pure.pure (Next.value u)) := fun w m w' h => by
  simp only [Sem.run_pure, Result.ok.injEq] at h
  exact ⟨u, h.1.symm⟩

theorem OnlyValue.bind {α : Type} (s : Sem α) (f : α → Sem Next) (hf : ∀ x, OnlyValue P (f x)) : OnlyValue P (s >>= f) := fun w m w' h => by
  rw [Sem.run_bind] at h
  cases hs : s.run P w with
  | ok u w1 =>
    rw [hs] at h
    exact hf u w1 m w' (by simpa [Result.andThen] using h)
  | halt x w1 => rw [hs] at h; simp [Result.andThen] at h

theorem OnlyValue.panics : OnlyValue P (runtimePanic .nilDeref) := fun w m w' h => by
  simp [runtimePanic] at h

theorem value_of {o : Oper} {ρ : Operand → Value} {w w' : World} {m : Next} (hv : valueB o.op = true) (h : (execOp ρ o).run P w = .ok m w') : ∃ u, m = .value u := by
  refine (?_ : OnlyValue P (execOp ρ o)) w m w' h
  unfold execOp
  split <;> simp_all only [valueB, Bool.false_eq_true] <;> first
    | exact OnlyValue.pure _
    | exact OnlyValue.bind _ _ fun _ => OnlyValue.pure _
    | skip
  split
  · exact OnlyValue.panics
  · exact OnlyValue.panics
  · exact OnlyValue.panics
  · split
    · exact OnlyValue.panics
    · refine OnlyValue.bind _ _ fun _ => OnlyValue.bind _ _ fun b => ?_
      split
      · exact OnlyValue.bind _ _ fun _ => OnlyValue.pure _
      · exact OnlyValue.pure _
    · exact OnlyValue.pure _
  · exact OnlyValue.pure _
/-- what the moves lean on -/
structure TillOk (md : Region.Mode) (ops : Array Oper) (n : Nat) : Prop where
  waits : Waits md ops n
  sel : Region.noSelect ops = true

def Till (P : Program) (md : Region.Mode) (ops : Array Oper) (Q : Exit → Act → World → Prop) (S : World → Prop) (n : Nat) (fuel : Nat) (listed : Array Bool) (a : Act) (w : World) : Prop :=
  TillOk md ops n → HeadInv md ops n listed → wpTill P md ops Q S n fuel listed a w

def tillB (md : Region.Mode) (ops : Array Oper) (n : Nat) : Bool :=
  Region.sinkB md ops n && Region.chainB md ops n && decide (n < ops.size) && Region.noSelect ops

/-- what is asked at a panic does not hang on the frame -/
def NoFrame (Q : Exit → Act → World → Prop) : Prop := ∀ c a d v w, Q (.panic c) (a.put d v) w → Q (.panic c) a w

theorem NoPanic.noFrame (Q : Exit → Act → World → Prop) : NoFrame (NoPanic Q) := fun _ _ _ _ _ h => h

/-- the beginning -/
theorem wp_region_till {id : Nat} {a : Act} {w : World} {l : List Oper} (n : Nat) (S : World → Prop) (hm : P.follows .mixedOrders = true) (hB : tillB .any l.toArray n = true)
    (h : Till P .any l.toArray Q S n l.length (Array.replicate l.length false) a w.drew) : (Code.region id l.toArray true).wp P Q a w := by
  unfold tillB at hB
  simp only [Bool.and_eq_true, decide_eq_true_eq] at hB
  obtain ⟨⟨⟨h1, h2⟩, h3⟩, h4⟩ := hB
  have hsz : l.toArray.size = l.length := by simp
  refine wp_region_any hm ?_
  rw [hsz]
  refine wpAny_of_till (S := S) (n := n) _ _ _ _ (h ⟨⟨h1, h2, h3⟩, h4⟩ ⟨by simp, fun j oj _ hl => ?_, fun t _ ht => ?_⟩)
  · rw [getD_replicate_false] at hl; cases hl
  · rw [hsz] at ht
    exact getD_in (by simpa using ht) (getD_replicate_false _ _)

/-- number i may be taken first -/
def mayB (md : Region.Mode) (ops : Array Oper) (n i : Nat) (listed : Array Bool) : Bool := decide (i < n) && Region.free md ops listed i && (Region.ready md ops listed).contains i

theorem Till.take {i fuel : Nat} {oi : Oper} {v : Value} {listed : Array Bool} {a : Act} {w : World} (hi : ops[i]? = some oi) (hB : mayB md ops n i listed = true) (hQ : NoFrame Q) (hS : S w) (hy : YieldsIf P ops S oi v a)
    (h : Till P md ops Q S n fuel (listed.setIfInBounds i true) (a.put oi.dst v) w) : Till P md ops Q S n (fuel + 1) listed a w := fun ok inv => by
  unfold mayB at hB
  simp only [Bool.and_eq_true, decide_eq_true_eq] at hB
  obtain ⟨⟨h1, h2⟩, h3⟩ := hB
  have hr : i ∈ Region.ready md ops listed := by simpa using h3
  exact wpTill_first ok.waits hi h1 (Region.noSelect_spec ok.sel) (fun c a w => hQ c a oi.dst v w) fuel listed a w inv (Region.free_spec hi h2) hr hy hS (h ok (inv.set hr h1))

theorem at_drop {i : Nat} {oi : Oper} {rest : List Oper} (h : ops.toList.drop i = oi :: rest) : ops[i]? = some oi := by
  have h1 := congrArg (fun l : List Oper => l[0]?) h
  simp only [List.getElem?_drop, Nat.add_zero, List.getElem?_cons_zero] at h1
  simpa using h1

/-- what looks at no world: by the quiet walk's own step -/
theorem Till.pure (i : Nat) {fuel : Nat} {oi : Oper} {listed : Array Bool} {a : Act} {w : World} {rest : List Oper} (hi0 : ops.toList.drop i = oi :: rest) (hv : valueB oi.op = true) (hB : mayB md ops n i listed = true) (hQ : NoFrame Q) (hS : S w)
    (h : wpQuiet P ops (fun _ => True) (fun a' => Till P md ops Q S n fuel (listed.setIfInBounds i true) a' w) [oi] a) : Till P md ops Q S n (fuel + 1) listed a w := by
  have hi := at_drop hi0
  unfold wpQuiet at h
  by_cases hw : Region.wanted oi (yielded ops a.tmps) = true
  · rw [if_pos hw] at h
    obtain ⟨v, h1, h2⟩ := h
    refine Till.take (v := v) hi hB hQ hS (.inl ⟨hw, fun w' _ => ?_⟩) h2
    have h3 := h1 w' trivial
    unfold Oper.quietAt at h3
    cases hr : (execOp a.eval oi).run P w' with
    | ok m w2 =>
      obtain ⟨u, rfl⟩ := value_of hv hr
      rw [hr] at h3
      simp only [Oper.quietUpon] at h3
      rw [h3.1, h3.2]
    | halt x w2 => rw [hr] at h3; simp only [Oper.quietUpon] at h3
  · rw [if_neg hw] at h
    exact Till.take (v := undef) hi hB hQ hS (.inr ⟨by simpa using hw, rfl⟩) h

/-- passed over: its guard says no -/
theorem Till.pass (i : Nat) {fuel : Nat} {oi : Oper} {listed : Array Bool} {a : Act} {w : World} {rest : List Oper} (hi0 : ops.toList.drop i = oi :: rest) (hw : Region.wanted oi (yielded ops a.tmps) = false) (hB : mayB md ops n i listed = true) (hQ : NoFrame Q) (hS : S w)
    (h : Till P md ops Q S n fuel (listed.setIfInBounds i true) (a.put oi.dst undef) w) : Till P md ops Q S n (fuel + 1) listed a w :=
  Till.take (v := undef) (at_drop hi0) hB hQ hS (.inr ⟨hw, rfl⟩) h

/-- a load of what S names: whatever its type -/
theorem Till.load (i : Nat) {fuel : Nat} {oi : Oper} {listed : Array Bool} {a : Act} {w : World} (t : TypeId) (x : Operand) (p : Addr) (v : Value) {rest : List Oper} (hi0 : ops.toList.drop i = oi :: rest) (hop : oi.op = .load t x) (hw : Region.wanted oi (yielded ops a.tmps) = true)
    (hx : a.eval x = .pointer (some p)) (hB : mayB md ops n i listed = true) (hQ : NoFrame Q) (hS : S w) (hl : ∀ w', S w' → (loadVar t p).run P w' = .ok v w')
    (h : Till P md ops Q S n fuel (listed.setIfInBounds i true) (a.put oi.dst v) w) : Till P md ops Q S n (fuel + 1) listed a w :=
  Till.take (v := v) (at_drop hi0) hB hQ hS (.inl ⟨hw, fun w' hS' => by
    unfold execOp
    simp only [hop, hx, Instr.loadAt, Instr.sureAddr, Sem.run_bind, Sem.run_pure, Result.andThen_ok, hl w' hS']⟩) h

/-- one that acts comes up, and no other may -/
theorem Till.act (i : Nat) {fuel : Nat} {oi : Oper} {listed : Array Bool} {a : Act} {w : World} {rest : List Oper} (hi0 : ops.toList.drop i = oi :: rest) (hin : decide (i < n) = true) (hr : Region.ready md ops listed = [i]) (hw : Region.wanted oi (yielded ops a.tmps) = true)
    (h : ∀ K : Act → World → Prop, (∀ a' w', S w' → Till P md ops Q S n fuel (listed.setIfInBounds i true) a' w' → K a' w') → oi.wp P a w K Q) :
    Till P md ops Q S n (fuel + 1) listed a w := fun ok inv => by
  have hi := at_drop hi0
  have hin' : i < n := of_decide_eq_true hin
  have hr' : i ∈ Region.ready md ops listed := by rw [hr]; simp
  unfold wpTill
  rw [if_neg (upB_at hin' (mem_ready.1 hr').1)]
  refine ⟨fun h0 => (by rw [hr] at h0; cases h0), fun j hj => ?_⟩
  rw [hr] at hj
  obtain rfl : j = i := by simpa using hj
  have := h (fun a' w' => S w' ∧ wpTill P md ops Q S n fuel (listed.setIfInBounds j true) a' w') (fun a' w' hS hT => ⟨hS, hT ok (inv.set hr' hin')⟩)
  unfold wpOp
  simp only [hi]
  rw [if_pos hw]
  exact .inl this

/-- the last ones, in their order -/
theorem Till.tail {fuel : Nat} {listed : Array Bool} {a : Act} {w : World} (l : List Oper) (hl : ops.toList.drop n = l) (hf : fuel + 1 = l.length) (hu : upB n listed = true) (hB : Region.seqB md ops l.length n listed = true) (h : wpList P ops Q l a w) :
    Till P md ops Q S n (fuel + 1) listed a w := fun _ _ => by
  unfold wpTill
  rw [if_pos hu, hf]
  exact wpAny_of_seq l n listed a w (fun j => by rw [← hl]; simp) hB h

/-- a cell that is no aggregate -/
theorem run_loadVar_one {t : TypeId} {d : TypeDesc} {p : Addr} {v : Value} {w : World} (hu : P.underlying t = some d) (hd : (match d with | .struct _ | .array _ _ => true | _ => false) = false) (hc : w.cell? p = some v) : (loadVar t p).run P w = .ok v w := by
  unfold loadVar isAgg
  rw [Sem.run_bind, Sem.run_bind, run_underlying hu w]
  cases d <;> simp_all [Result.andThen, go_sem]
end
end Go.Proofs.YtfoifdhcelcgiaaGreatDoor
