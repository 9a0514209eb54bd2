/-
  tribunalref02.Of: a text's digest, by the document: the same.
-/
import Derived.Test.YtfoifdhcelcgiaaGreatDoorJd
import Derived.Deep.OwnRows
import Derived.Deep.CutRange
namespace Go.Proofs.YtfoifdhcelcgiaaGreatDoor
open Go Go.RowKit

def bMul (x : UInt32) : UInt32 := 256 * x
theorem w_mul (x : UInt32) : IntKind.u32.wrap (256 * (x.toNat : Int)) = ((bMul x).toNat : Int) := by
  rw [wrap32i]
  unfold bMul
  rw [UInt32.toNat_mul]
  simp
theorem or_sum (a b i : Nat) (h : b < 2 ^ i) : a <<< i ||| b = a * 2 ^ i + b := by
  rw [← Nat.shiftLeft_add_eq_or_of_lt h, Nat.shiftLeft_eq]
theorem ld_sum (a b c d : UInt8) : bAdd (bMul (bAdd (bMul (bAdd (bMul (bAdd (bMul 0) (w8 a))) (w8 b))) (w8 c))) (w8 d) = ldw a b c d := by
  have ha := a.toNat_lt
  have hb := b.toNat_lt
  have hc := c.toNat_lt
  have hd := d.toNat_lt
  have e1 : (bAdd (bMul 0) (w8 a)).toNat = a.toNat := by
    unfold bAdd bMul w8
    simp
  have e2 : ∀ x : UInt32, ∀ (c : UInt8), x.toNat < 16777216 → (bAdd (bMul x) (w8 c)).toNat = x.toNat * 256 + c.toNat := fun x c hx => by
    have := c.toNat_lt
    unfold bAdd bMul w8
    rw [UInt32.toNat_add, UInt32.toNat_mul]
    simp
    omega
  apply UInt32.toNat_inj.1
  rw [e2 _ d (by rw [e2 _ c (by rw [e2 _ b (by rw [e1]; omega), e1]; omega), e2 _ b (by rw [e1]; omega), e1]; omega), e2 _ c (by rw [e2 _ b (by rw [e1]; omega), e1]; omega), e2 _ b (by rw [e1]; omega), e1]
  unfold ldw bOr bShl w8
  rw [UInt32.toNat_or, UInt32.toNat_or, UInt32.toNat_or, UInt32.toNat_shiftLeft, UInt32.toNat_shiftLeft, UInt32.toNat_shiftLeft]
  simp only [UInt8.toNat_toUInt32]
  have h24 : a.toNat <<< 24 % 2 ^ 32 = a.toNat <<< 24 := by rw [Nat.shiftLeft_eq]; omega
  have h16 : b.toNat <<< 16 % 2 ^ 32 = b.toNat <<< 16 := by rw [Nat.shiftLeft_eq]; omega
  have h8 : c.toNat <<< 8 % 2 ^ 32 = c.toNat <<< 8 := by rw [Nat.shiftLeft_eq]; omega
  show _ = ((a.toNat <<< (24 % 32) % 2 ^ 32 ||| b.toNat <<< (16 % 32) % 2 ^ 32) ||| c.toNat <<< (8 % 32) % 2 ^ 32) ||| d.toNat
  rw [show 24 % 32 = 24 from rfl, show 16 % 32 = 16 from rfl, show 8 % 32 = 8 from rfl, h24, h16, h8]
  have s1 : a.toNat <<< 24 ||| b.toNat <<< 16 = (a.toNat * 256 + b.toNat) <<< 16 := by
    rw [or_sum _ _ 24 (by rw [Nat.shiftLeft_eq]; omega), Nat.shiftLeft_eq, Nat.shiftLeft_eq]; omega
  have s2 : (a.toNat * 256 + b.toNat) <<< 16 ||| c.toNat <<< 8 = ((a.toNat * 256 + b.toNat) * 256 + c.toNat) <<< 8 := by
    rw [or_sum _ _ 16 (by rw [Nat.shiftLeft_eq]; omega), Nat.shiftLeft_eq, Nat.shiftLeft_eq]; omega
  rw [s1, s2, or_sum _ _ 8 (by omega)]

/-- a word that is summed up, byte by byte -/
def accW (p : List UInt8) (n : Nat) : Nat → UInt32
  | 0 => 0
  | k + 1 => bAdd (bMul (accW p n k)) (w8 (p.getD (4 * n + k) 0))
theorem accW_four (p : List UInt8) (n : Nat) : accW p n 4 = ldAt p n := ld_sum _ _ _ _

/-- an array that is filled so far, and a word under way -/
def Part (w : World) (b : Nat) (t : TypeId) (l : List UInt32) (n : Nat) (x : UInt32) : Prop := l.length < n ∧ w.heap[b]? = some (.cells ((fillA l n).setIfInBounds l.length (vw x)) t (0, 0))
section
variable {w w' : World} {b n : Nat} {t : TypeId} {l : List UInt32} {x : UInt32}
theorem fillA_size (h : l.length ≤ n) : (fillA l n).size = n := by simp [fillA]; omega
theorem fillA_push (hl : l.length < n) : (fillA l n).setIfInBounds l.length (vw x) = fillA (l ++ [x]) n := by
  unfold fillA
  apply Array.ext'
  simp only [Array.toList_setIfInBounds, List.length_append, List.length_cons, List.length_nil, Nat.zero_add, List.map_append, List.map_cons, List.map_nil]
  obtain ⟨k, hk⟩ : ∃ k, n - l.length = k + 1 := ⟨n - l.length - 1, by omega⟩
  rw [hk, show n - (l.length + 1) = k by omega, List.replicate_succ, List.set_append_right _ _ (by simp)]
  simp
theorem Filled.part (h : Filled w b t l n) (hl : l.length < n) : Part w b t l n 0 := by
  refine ⟨hl, ?_⟩
  rw [h.2]
  congr 2
  unfold fillA
  apply Array.ext'
  obtain ⟨k, hk⟩ : ∃ k, n - l.length = k + 1 := ⟨n - l.length - 1, by omega⟩
  rw [hk, List.replicate_succ]
  simp only [Array.toList_setIfInBounds]
  rw [List.set_append_right _ _ (by simp)]
  simp
theorem Part.full (h : Part w b t l n x) : Filled w b t (l ++ [x]) n := ⟨by have := h.1; simp; omega, by rw [h.2, fillA_push h.1]⟩
theorem Part.get (h : Part w b t l n x) : w.cell? ⟨b, l.length, none⟩ = some (vw x) := by
  have := h.full.get (i := l.length) (by simp)
  simpa [List.getD] using this
theorem Part.free (h : Part w b t l n x) : w.frozen? ⟨b, l.length, none⟩ = false := by simp [World.frozen?, h.2]
theorem Part.lt (h : Part w b t l n x) : b < w.heap.size := (Array.getElem?_eq_some_iff.1 h.2).1
theorem Part.set (h : Part w b t l n x) (y : UInt32) : Part (w.setCell ⟨b, l.length, none⟩ (vw y)) b t l n y := by
  refine ⟨h.1, ?_⟩
  rw [setCell_eq_setRow w b l.length _ t (0, 0) _ h.2, setRow_heap w b _ _ t (0, 0) h.2]
  simp
end

theorem made64 : madeCells #[.int .u32 0] 64 = fillA [] 64 := by kernel_rfl

theorem out_at (s : St) {a : Nat} (ha : a < 8) : ∃ x, s.l[a]? = some x ∧ s.out[4 * a]? = some (lo8 (bShr 24 x)) ∧ s.out[4 * a + 1]? = some (lo8 (bShr 16 x)) ∧ s.out[4 * a + 2]? = some (lo8 (bShr 8 x)) ∧ s.out[4 * a + 3]? = some (lo8 x) := by
  have h : a = 0 ∨ a = 1 ∨ a = 2 ∨ a = 3 ∨ a = 4 ∨ a = 5 ∨ a = 6 ∨ a = 7 := by omega
  rcases h with rfl | rfl | rfl | rfl | rfl | rfl | rfl | rfl <;> exact ⟨_, rfl, rfl, rfl, rfl, rfl⟩

set_option maxRecDepth 100000 in
set_option maxHeartbeats 40000000 in
theorem rof_any (l : List UInt8) (w : World) (hl : l.length ≤ 17592186044416) :
    Calls Tryz.prog 75 #[txt l] w fun e w' => e = .returned (.agg (bcs (shaB l)).toArray) ∧ Below w.heap.size w w' := by
  obtain ⟨hz, hi⟩ := info_two idInfo
  have HZ := Lib.hid hz
  have HI := Lib.hid hi
  clear hz hi
  go_enter Tryz.func75, Tryz.ntmps75
  go_upto_region 2 with (first
    | (refine wpList_allocZ _ rfl 31 rfl _ HZ.out ?_)
    | (go_at_call 102; refine (known_any _).mono ?_; rintro e w1 ⟨hb, kb, rfl, hh1, hk1, hq1, hq2, hq3, hb1⟩; have P1 := Lib.hid hh1; have P2 := Lib.hid hk1; have P3 := Lib.hid hb1; clear hh1 hk1 hb1))
  have hd1 : w1.heap[w.heap.size]? = some (.cells (fillB [] 32) 31 (0, 0)) := (P3.out.block _ (by simp)).trans (MapKept.heap_alloc _ _).1
  have hbw : Below w.heap.size w w1 := ((Below.refl _ w).alloc (Nat.le_refl _) _).trans (P3.out.mono (by simp))
  have P4 := Lib.hid hd1
  have P5 := Lib.hid hbw
  have hsz1 := P3.out.size
  rw [World.size_alloc] at hq1 hq2 hsz1
  have lb1 := (Array.getElem?_eq_some_iff.1 P1.out).1
  have lb2 := (Array.getElem?_eq_some_iff.1 P2.out).1
  clear hd1 hbw
  go_upto_region 3 with (first
    | (refine wpList_txt_bytes rfl _ _ _ rfl 5 Tryz.underlying9 Tryz.underlying108 Tryz.underlying5 l (by rfl) (by unfold maxLen; omega) ?_; intro cap2 w2 hown2 hb2 hs2; have G1 := Lib.hid hown2; have G2 := Lib.hid hb2; have G3 := hb2.size; clear hown2 hb2 hs2)
    | (at_builtin; refine wpList_byte _ _ _ _ _ 128 _ _ rfl rfl rfl rfl rfl G1.out rfl (by omega) (by omega) ?_; intro v3 w3 hown3 hg3; have G4 := Lib.hid hown3; have G5 := Lib.hid (below_grown (G2.out.alloc G3 _) hg3 (G1.out.alloc _) (by simp; omega)); clear hown3 hg3))
  go_loopw [5] (fun b wr => ∃ (k : Nat) (L : List UInt8), k ≤ zc l.length ∧ L = l ++ [128] ++ List.replicate k 0 ∧ Owns wr w1.heap.size 5 1 b L.length (bcs L) ∧ Below w1.heap.size w1 wr) (fun b _ => l.length + 100 - vlen b)
  case atStart => exact ⟨0, _, by omega, by simp, G4.out, G5.out⟩
  case round =>
    obtain ⟨k, L, hk, hL, hown, hbr⟩ := hrel
    obtain ⟨p, cap, rfl⟩ := hown.form
    have hlen : L.length = l.length + 1 + k := by rw [hL]; simp; omega
    have hzc : zc l.length ≤ 63 := by unfold zc; omega
    have hsz := hbr.size
    have K0 := Lib.hid hL
    have K1 := Lib.hid hown
    have K2 := Lib.hid hbr
    clear hL hown hbr
    by_cases hlt : k < zc l.length
    · as_aux_lemma => -- {{
      have hmod : (L.length : Int) % 64 ≠ 56 := by unfold zc at hlt; omega
      have hm1 : ((L.length : Int) % 64 != 56) = true := by simpa using hmod
      have hlen1 := Nat.le_of_eq hlen
      have KL := Lib.hid hlen
      clear hlen hmod
      go_wp2_with (first | (at_builtin; refine wpList_byte _ _ _ _ _ 0 _ _ rfl rfl rfl rfl rfl K1.out rfl (by omega) (by omega) ?_; intro v4 w4 hown4 hg4))
      obtain ⟨p4, cap4, rfl⟩ := hown4.form
      have hb4 := below_grown (K2.out.alloc hsz _) hg4 (K1.out.alloc _) (by simp; omega)
      go_roundw
      case rel => exact ⟨k + 1, _, by omega, by rw [K0.out, List.replicate_succ']; simp, hown4, hb4⟩
      case measure => simp [vlen] <;> omega
      -- }}
    · obtain rfl : k = zc l.length := by omega
      have hmod : (L.length : Int) % 64 = 56 := by unfold zc at hlen; omega
      have hm1 : ((L.length : Int) % 64 != 56) = false := by simpa using hmod
      have hlen1 := Nat.le_of_eq hlen
      have KL := Lib.hid hlen
      clear hlen hmod
      go_wp2
      clear hm1
      go_loopw [5, 6, 7] (fun b z x wq => ∃ (j m : Nat) (M : List UInt8), j ≤ 8 ∧ x = .int .i64 j ∧ z = .int .u64 m ∧ m = l.length * 8 * 256 ^ j % 18446744073709551616 ∧ M = L ++ be8 (l.length * 8) j ∧ Owns wq w1.heap.size 5 1 b M.length (bcs M) ∧ Below w1.heap.size w1 wq) (fun _ _ x _ => 8 - (intOf x).toNat)
      case atStart => exact ⟨0, l.length * 8, L, by omega, rfl, rfl, by omega, by simp [be8], K1.out, K2.out⟩
      case round =>
        obtain ⟨j, m, M, hj, rfl, rfl, hm, hM, hown, hbr⟩ := hrel
        obtain ⟨pM, capM, rfl⟩ := hown.form
        have hlenM : M.length = L.length + j := by rw [hM, List.length_append, length_be8]
        have hlm := Nat.le_of_eq hlenM
        have hszM := hbr.size
        have N0 := Lib.hid hM
        have N1 := Lib.hid hown
        have N2 := Lib.hid hbr
        have N3 := Lib.hid hlenM
        have N4 := Lib.hid hm
        clear hM hown hbr hlenM hm
        by_cases hlt : j < 8
        · as_aux_lemma => -- {{
          have hj8 : j = 0 ∨ j = 1 ∨ j = 2 ∨ j = 3 ∨ j = 4 ∨ j = 5 ∨ j = 6 ∨ j = 7 := by omega
          have hw64 : ∀ n : Int, IntKind.u64.wrap n = n % 18446744073709551616 := fun n => by simp [IntKind.wrap, IntKind.bits, IntKind.signed]
          have hcx : ∃ (c : UInt8) (x m' : Nat), IntKind.u64.wrap ((m : Int) / 72057594037927936) = (x : Int) ∧ x < 256 ∧ Value.int .u8 (x : Int) = bv c ∧ be8 (l.length * 8) (j + 1) = be8 (l.length * 8) j ++ [c] ∧ IntKind.u64.wrap ((m : Int) * 256) = (m' : Int) ∧ m' = l.length * 8 * 256 ^ (j + 1) % 18446744073709551616 := by
            have hm := N4.out
            refine ⟨UInt8.ofNat (l.length * 8 / 256 ^ (7 - j) % 256), m / 72057594037927936, m * 256 % 18446744073709551616, ?_, ?_, ?_, rfl, ?_, ?_⟩
            · rw [hw64]; omega
            · omega
            · unfold bv
              congr 1
              rcases hj8 with rfl | rfl | rfl | rfl | rfl | rfl | rfl | rfl <;> simp at hm ⊢ <;> omega
            · rw [hw64]; omega
            · rw [hm, Nat.pow_succ, ← Nat.mul_assoc, Nat.mod_mul_mod]
          clear hw64
          obtain ⟨c, x, m', hx1, hx2, hc1, hc2, hm1, hc3⟩ := hcx
          have C1 := Lib.hid hc1
          have C2 := Lib.hid hc2
          have C3 := Lib.hid hc3
          clear hc1 hc2 hc3 hj8
          go_wp2_with (first | (at_builtin; refine wpList_byte _ _ _ _ _ c _ _ C1.out rfl rfl rfl rfl N1.out rfl (by omega) (by omega) ?_; intro v4 w4 hown4 hg4))
          have hb4 := below_grown (N2.out.alloc hszM _) hg4 (N1.out.alloc _) (by simp; omega)
          clear hx1 hm1
          go_roundw
          case rel => exact ⟨j + 1, m', _, by omega, by go_num, rfl, C3.out, by rw [N0.out, C2.out]; simp, hown4, hb4⟩
          case measure => simp [intOf] <;> omega
          -- }}
        · obtain rfl : j = 8 := by omega
          have hpad : M = padB l := by rw [N0.out, K0.out]; rfl
          have hML : M.length % 64 = 0 := by rw [hpad]; exact length_padB l
          have NP := Lib.hid hpad
          obtain ⟨q, hq⟩ : ∃ q, M.length = 64 * q := ⟨M.length / 64, by omega⟩
          have NQ := Lib.hid hq
          have hsrc := N1.out.src
          have hat : ∀ b off, pM = some ⟨b, off, none⟩ → b < wr.heap.size ∧ w1.heap.size ≤ b ∧ off = 0 := fun b off e => by
            have h1 := N1.out.at e
            exact ⟨h1.2.1, h1.1, h1.2.2.1⟩
          have P6 := Lib.hid hsrc
          have P7 := Lib.hid hat
          have P8 := Lib.hid ((N2.out.block _ lb1).trans P1.out)
          have P9 := Lib.hid ((N2.out.block _ lb2).trans P2.out)
          have hMq : M.length ≤ 17592186044500 := by omega
          have hqq : 64 * q ≤ 17592186044500 := by omega
          clear hsrc hat hpad hML hq hlt
          rw [show ((8 : Nat) : Int) = 8 from rfl]
          go_wp2
          go_loopw [8] (fun x wz => ∃ n : Nat, n ≤ q ∧ x = .int .i64 (64 * n : Nat) ∧ wz.heap[hb]? = some (.cells (wcs (soak H0 M n).l).toArray 129 (0, 0)) ∧ wr.grownBy wz (some hb)) (fun x _ => M.length - (intOf x).toNat)
          case atStart => exact ⟨0, by omega, rfl, P8.out, World.grownBy.refl _ _⟩
          case round =>
            obtain ⟨n, hn, rfl, hst, hg⟩ := hrel
            have hq := NQ.out
            by_cases hlt : n < q
            · -- {{
              obtain ⟨a0, ha0⟩ : ∃ a, a = 64 * n := ⟨_, rfl⟩
              have W64 := Lib.hid ha0
              have ha1 : a0 + 64 ≤ M.length := by omega
              rw [← ha0]
              have E1 := Lib.hid (show soak H0 M (n + 1) = mixS ((M.drop a0).take 64) (soak H0 M n) by rw [ha0]; rfl)
              have E2 := Lib.hid ha0
              have hgs := hg.size
              generalize soak H0 M n = s at hst E1
              have Q1 := Lib.hid hst
              have Q2 := Lib.hid hg
              obtain ⟨c0, hc0, -, -⟩ := byte_at (l := M) (j := 0) (by omega)
              obtain ⟨g, off, rfl, hcell0⟩ := P6.out 0 _ hc0
              obtain ⟨hg1, hg2, rfl⟩ := P7.out g off rfl
              have hsrcz := P6.out.of_block (w' := wr) fun b o e => by
                cases e
                exact Q2.out.block g hg1 (fun e => by have := Option.some.inj e; omega)
              have Q3 := Lib.hid hsrcz
              clear hst hg hq ha0 hc0 hcell0 hsrcz
              have hlt2 : (a0 : Int) < (M.length : Int) := by omega
              obtain ⟨i0, hi, hz0, hz1, hz2⟩ : ∃ i0, Tryz.prog.info? 129 = some i0 ∧ i0.zero = some (.int .u32 0) ∧ i0.size = 1 ∧ i0.bytes = 4 := by
                obtain ⟨i0, h1, h2, h3, h4⟩ := info_parts w4Info
                exact ⟨i0, h1, h2, h3, h4⟩
              go_upto_region 15 with (first
                | (refine wpList_make_row _ rfl _ _ 133 rfl 129 i0 (.int .u32 0) Tryz.underlying133 hi hz0 hz1 rfl .i64 .i64 64 (by rfl) (by rfl) (by rw [hz2]; omega) (by omega) ?_))
              obtain ⟨pB, hpB⟩ : ∃ pB, pB = (M.drop a0).take 64 := ⟨_, rfl⟩
              have hpl : pB.length = 64 := by rw [hpB, List.length_take, List.length_drop]; omega
              have hpg : ∀ j, j < 64 → pB.getD j 0 = M.getD (a0 + j) 0 := fun j hj => by rw [hpB]; simp [List.getD, hj]
              rw [← hpB] at E1
              rw [made64]
              have hf0 : Filled (wr.alloc (.cells (fillA [] 64) 129)) wr.heap.size 129 (sched pB 0) 64 := ⟨by simp [sched], (MapKept.heap_alloc _ _).1⟩
              have F0 := Lib.hid hf0
              have F1 := Lib.hid hpl
              have F2 := Lib.hid hpg
              clear hpB hpl hpg hf0
              obtain ⟨wA, hwA⟩ : ∃ wA : World, wA = wr := ⟨wr, rfl⟩
              subst hwA
              go_wp2
              go_loopw [10] (fun x wz => ∃ i : Nat, i ≤ 16 ∧ x = .int .i64 i ∧ Filled wz wA.heap.size 129 (sched pB i) 64 ∧ Below wA.heap.size wA wz) (fun x _ => 16 - (intOf x).toNat)
              case atStart => exact ⟨0, by omega, rfl, F0.out, (Below.refl _ wA).alloc (Nat.le_refl _) _⟩
              case round =>
                obtain ⟨i, hi16, rfl, hf, hbz⟩ := hrel
                have hsl := length_sched pB i
                by_cases hlt : i < 16
                · have hd16 : decide ((i : Int) < 16) = true := by simp; omega
                  have hpt := hf.part (by omega)
                  have F3 := Lib.hid hpt
                  have F4 := Lib.hid hbz
                  have F5 := Lib.hid hsl
                  clear hf hbz hsl hpt
                  obtain ⟨wC, hwC⟩ : ∃ wC : World, wC = wr := ⟨wr, rfl⟩
                  subst hwC
                  go_wp2
                  go_loopw [11] (fun x wq => ∃ k : Nat, k ≤ 4 ∧ x = .int .i64 k ∧ Part wq wA.heap.size 129 (sched pB i) 64 (accW pB i k) ∧ Below wA.heap.size wA wq) (fun x _ => 4 - (intOf x).toNat)
                  case atStart => exact ⟨0, by omega, rfl, F3.out, F4.out⟩
                  case round =>
                    obtain ⟨k, hk4, rfl, hpt, hbq⟩ := hrel
                    by_cases hlt : k < 4
                    · as_aux_lemma => -- {{
                      obtain ⟨m4, e4⟩ : ∃ m : Nat, m = 4 * i := ⟨_, rfl⟩
                      obtain ⟨m5, e5⟩ : ∃ m : Nat, m = a0 + 4 * i := ⟨_, rfl⟩
                      obtain ⟨m6, e6⟩ : ∃ m : Nat, m = a0 + 4 * i + k := ⟨_, rfl⟩
                      obtain ⟨c, hc1, -, hc2⟩ := byte_at (l := M) (j := m6) (by omega)
                      obtain ⟨g', off', e, hc3⟩ := Q3.out m6 _ hc1
                      cases e
                      have hc : wr.cell? ⟨g, m6, none⟩ = some (.int .u8 c.toNat) := by
                        have := (hbq.cell (p := ⟨g, 0 + m6, none⟩) (by show g < _; omega)).trans hc3
                        rwa [Nat.zero_add] at this
                      have s4 : IntKind.i64.wrap (4 * (i : Int)) = m4 := by rw [IntWalk.i64_in _ (by omega)]; omega
                      have s5 : IntKind.i64.wrap ((a0 : Int) + m4) = m5 := by rw [IntWalk.i64_in _ (by omega)]; omega
                      have s6 : IntKind.i64.wrap ((m5 : Int) + k) = m6 := by rw [IntWalk.i64_in _ (by omega)]; omega
                      have b6 : (m6 : Int) < (M.length : Int) := by omega
                      have b7 : (i : Int) < 64 := by omega
                      have hacc : accW pB i (k + 1) = bAdd (bMul (accW pB i k)) (w8 c) := by
                        have h1 := F2.out (4 * i + k) (by omega)
                        rw [show a0 + (4 * i + k) = m6 by omega, List.getD_eq_getElem?_getD (l := M), hc2] at h1
                        rw [accW, h1]
                        rfl
                      have hset := hpt.set (bAdd (bMul (accW pB i k)) (w8 c))
                      rw [F5.out] at hset
                      have hset2 : Part (wr.setCell ⟨wA.heap.size, i, none⟩ (vw (bAdd (bMul (accW pB i k)) (w8 c)))) wA.heap.size 129 (sched pB i) 64 (accW pB i (k + 1)) := by rw [hacc]; exact hset
                      have hget := hpt.get
                      have hfre := hpt.free
                      rw [F5.out] at hget hfre
                      have T1 := Lib.hid hset2
                      have T2 := Lib.hid hbq
                      have T3 := Lib.hid hacc
                      clear hset hset2 hbq hacc hpt e4 e5 e6 hc1 hc2 hc3
                      generalize accW pB i k = xa at hget T1 T3
                      go_wp2
                      refine wp_region_tail 19 (by kernel_rfl) (by kernel_rfl) ?_
                      simp only [List.take_succ_cons, List.take_zero, List.drop_succ_cons, List.drop_zero]
                      have R1 := w_u8
                      have R2 := w_mul
                      have R3 := w_add
                      repeat still_step
                      refine wpStill_nil ?_
                      clear R1 R2 R3
                      go_wp2
                      go_roundw
                      case rel => first | exact ⟨k + 1, by omega, by go_num, T1.out, (T2.out.setCell (Nat.le_refl _) _).drew⟩ | ((repeat apply Exists.intro); exact ⟨⟨k + 1, by omega, by go_num, T1.out, (T2.out.setCell (Nat.le_refl _) _).drew⟩, rfl⟩)
                      case measure => simp [intOf] <;> omega
                      -- }}
                    · obtain rfl : k = 4 := by omega
                      have hfull := hpt.full
                      have hnext : sched pB i ++ [accW pB i 4] = sched pB (i + 1) := by rw [accW_four, sched, if_pos (by omega)]
                      rw [hnext] at hfull
                      have T1 := Lib.hid hfull
                      have T2 := Lib.hid hbq
                      clear hpt hbq hfull hnext
                      rw [show ((4 : Nat) : Int) = 4 from rfl]
                      go_wp2
                      go_roundw
                      case rel => first | exact ⟨i + 1, by omega, by go_num, T1.out, T2.out⟩ | ((repeat apply Exists.intro); exact ⟨⟨i + 1, by omega, by go_num, T1.out, T2.out⟩, rfl⟩)
                      case measure => simp [intOf] <;> omega
                · obtain rfl : i = 16 := by omega
                  have F3 := Lib.hid hf
                  have F4 := Lib.hid hbz
                  clear hf hbz hsl
                  rw [show ((16 : Nat) : Int) = 16 from rfl]
                  go_wp2
                  go_loopw [12] (fun x wz => ∃ i : Nat, 16 ≤ i ∧ i ≤ 64 ∧ x = .int .i64 i ∧ Filled wz wA.heap.size 129 (sched pB i) 64 ∧ Below wA.heap.size wA wz) (fun x _ => 64 - (intOf x).toNat)
                  case atStart => exact ⟨16, by omega, by omega, rfl, F3.out, F4.out⟩
                  case round =>
                    obtain ⟨i, h16, hi64, rfl, hf, hbz⟩ := hrel
                    have hlen := length_sched pB i
                    by_cases hlt : i < 64
                    · as_aux_lemma => -- {{
                      obtain ⟨ja, ea⟩ : ∃ m : Nat, m = i - 16 := ⟨_, rfl⟩
                      obtain ⟨jb, eb⟩ : ∃ m : Nat, m = i - 7 := ⟨_, rfl⟩
                      obtain ⟨jc, ec⟩ : ∃ m : Nat, m = i - 15 := ⟨_, rfl⟩
                      obtain ⟨jd, ed⟩ : ∃ m : Nat, m = i - 2 := ⟨_, rfl⟩
                      have k0 := hf.get (i := ja) (by omega)
                      have k1 := hf.get (i := jb) (by omega)
                      have k2 := hf.get (i := jc) (by omega)
                      have k3 := hf.get (i := jd) (by omega)
                      have s0 : IntKind.i64.wrap ((i : Int) - 16) = ja := by rw [IntWalk.i64_in _ (by omega)]; omega
                      have s1 : IntKind.i64.wrap ((i : Int) - 7) = jb := by rw [IntWalk.i64_in _ (by omega)]; omega
                      have s2 : IntKind.i64.wrap ((i : Int) - 15) = jc := by rw [IntWalk.i64_in _ (by omega)]; omega
                      have s3 : IntKind.i64.wrap ((i : Int) - 2) = jd := by rw [IntWalk.i64_in _ (by omega)]; omega
                      have b0 : (ja : Int) < 64 := by omega
                      have b1 : (jb : Int) < 64 := by omega
                      have b2 : (jc : Int) < 64 := by omega
                      have b3 : (jd : Int) < 64 := by omega
                      have b4 : (i : Int) < 64 := by omega
                      obtain ⟨⟨z, hz⟩, hfr⟩ := hf.free hlt
                      obtain ⟨xa, ga⟩ : ∃ x, x = (sched pB i).getD ja 0 := ⟨_, rfl⟩
                      obtain ⟨xb, gb⟩ : ∃ x, x = (sched pB i).getD jb 0 := ⟨_, rfl⟩
                      obtain ⟨xc, gc⟩ : ∃ x, x = (sched pB i).getD jc 0 := ⟨_, rfl⟩
                      obtain ⟨xd, gd⟩ : ∃ x, x = (sched pB i).getD jd 0 := ⟨_, rfl⟩
                      rw [← ga] at k0
                      rw [← gb] at k1
                      rw [← gc] at k2
                      rw [← gd] at k3
                      have hpush := hf.push (by omega) (nxt xa xb xc xd)
                      have hs : sched pB (i + 1) = sched pB i ++ [nxt xa xb xc xd] := by
                        rw [sched, if_neg (by omega)]
                        unfold nxtAt
                        rw [← ea, ← eb, ← ec, ← ed, ← ga, ← gb, ← gc, ← gd]
                      rw [← hs, hlen] at hpush
                      have H1 := Lib.hid hpush
                      have H2 := Lib.hid hbz
                      clear ga gb gc gd hpush hs hbz hf hlen ea eb ec ed
                      go_wp2
                      go_quiet (fail)
                      go_wp2
                      refine wp_region_tail 32 (by kernel_rfl) (by kernel_rfl) ?_
                      simp only [List.take_succ_cons, List.take_zero, List.drop_succ_cons, List.drop_zero]
                      have R1 := w_add
                      have R2 := r_shr3
                      have R3 := r_shr10
                      have R4 := r_xor
                      repeat still_step
                      still_call (turn_7 _ _)
                      repeat still_step
                      still_call (turn_18 _ _)
                      repeat still_step
                      still_call (turn_17 _ _)
                      repeat still_step
                      still_call (turn_19 _ _)
                      repeat still_step
                      refine wpStill_nil ?_
                      clear R1 R2 R3 R4
                      go_wp2
                      go_roundw
                      case rel => first | exact ⟨i + 1, by omega, by omega, by go_num, H1.out, (below_drewN H2.out _).setCell (Nat.le_refl _) _⟩ | ((repeat apply Exists.intro); exact ⟨⟨i + 1, by omega, by omega, by go_num, H1.out, (below_drewN H2.out _).setCell (Nat.le_refl _) _⟩, rfl⟩)
                      case measure => simp [intOf] <;> omega
                      -- }}
                    · obtain rfl : i = 64 := by omega
                      obtain ⟨wD, hwD⟩ : ∃ wD : World, wD = wr := ⟨wr, rfl⟩
                      subst hwD
                      rw [show ((64 : Nat) : Int) = 64 from rfl]
                      have hhD := (hbz.block _ (Array.getElem?_eq_some_iff.1 Q1.out).1).trans Q1.out
                      have lA := hf.lt
                      have hszD := hbz.size
                      have lh := (Array.getElem?_eq_some_iff.1 Q1.out).1
                      have H1 := Lib.hid hf
                      have H2 := Lib.hid hbz
                      have H3 := Lib.hid hhD
                      clear hf hbz hhD hlen
                      have hown0 : Owns (wD.alloc (.cells #[] 129)) wD.heap.size 129 1 (.slice (some ⟨wD.heap.size, 0, none⟩) 0 0) 0 [] :=
                        ⟨rfl, .inr ⟨wD.heap.size, 0, #[], (0, 0), rfl, Nat.le_refl _, (MapKept.heap_alloc _ _).1, ⟨.inl (by omega), fun _ => rfl⟩, by omega, by unfold maxLen; omega, rfl, rfl⟩⟩
                      have hsrc0 : SrcAt (wD.alloc (.cells #[] 129)) (some ⟨hb, 0, none⟩) (wcs s.l) := fun j u hj => ⟨hb, 0, rfl, by
                        rw [cell_of_row _ _ _ _ _ _ (((MapKept.heap_alloc _ _).2 _ (by omega)).trans H3.out), Nat.zero_add]
                        simpa using hj⟩
                      have H4 := Lib.hid hown0
                      have H5 := Lib.hid hsrc0
                      clear hown0 hsrc0
                      go_wp2_with (first
                        | (at_builtin; refine wpList_append_G rfl _ _ 133 rfl wD.heap.size 129 i0 (.int .u32 0) 1 4 Tryz.underlying133 hi hz0 hz1 hz2 rfl (by decide) _ 0 [] rfl H4.out (some ⟨hb, 0, none⟩) 8 8 (wcs s.l) (by rfl) rfl H5.out (fun a ha => by cases ha; rfl) (by simp [wcs, Value.oneCell']) (by unfold maxLen; omega) (by omega) (by simp) ?_; intro v6 w6 hown6 hg6 _; have H6 := Lib.hid hown6; have H7 := Lib.hid hg6; clear hown6 hg6))
                      obtain ⟨gv, capv, rfl, hgv1, hcv, hgv2⟩ : ∃ gv capv, v6 = .slice (some ⟨gv, 0, none⟩) 8 capv ∧ wD.heap.size ≤ gv ∧ cellsAt w6 gv 0 s.cs ∧ gv < w6.heap.size := by
                        obtain ⟨p6, c6, rfl⟩ := H6.out.form
                        have hs6 := H6.out.src
                        obtain ⟨g6, o6, e6, hc6⟩ := hs6 0 (vw s.a) rfl
                        have hat := H6.out.at e6
                        subst e6
                        obtain ⟨h1, h2, h3, -⟩ := hat
                        subst h3
                        refine ⟨g6, c6, rfl, h1, fun j u hj => ?_, h2⟩
                        obtain ⟨b, o, e, hc⟩ := hs6 j u hj
                        cases e
                        exact hc
                      have hbD6 : Below wD.heap.size wD w6 := below_grown ((Below.refl _ wD).alloc (Nat.le_refl _) _) H7.out H4.out (by simp)
                      have J1 := Lib.hid hcv
                      have J2 := Lib.hid hbD6
                      clear hcv hbD6
                      have lk : kb < wA.heap.size := by have := hgs; have := (Array.getElem?_eq_some_iff.1 P9.out).1; omega
                      have hkA := (Q2.out.block _ (Array.getElem?_eq_some_iff.1 P9.out).1 (fun e => by have := Option.some.inj e; omega)).trans P9.out
                      have hkD := (H2.out.block _ lk).trans hkA
                      have J3 := Lib.hid hkD
                      clear hkA hkD
                      go_loopw [15, 16] (fun v x wz => ∃ (i bv cv : Nat), i ≤ 64 ∧ x = .int .i64 i ∧ v = .slice (some ⟨bv, 0, none⟩) 8 cv ∧ cellsAt wz bv 0 (s.rounds KT (sched pB 64) i).cs ∧ wD.heap.size ≤ bv ∧ bv < wz.heap.size ∧ Below wD.heap.size wD wz) (fun _ x _ => 64 - (intOf x).toNat)
                      case atStart => exact ⟨0, gv, capv, by omega, rfl, rfl, J1.out, hgv1, hgv2, J2.out⟩
                      case round =>
                        obtain ⟨i, bw, cw, hi64, rfl, rfl, hcs, hbw1, hbw2, hbz⟩ := hrel
                        by_cases hlt : i < 64
                        · as_aux_lemma => -- {{
                          have kk : wr.cell? ⟨kb, i, none⟩ = some (vw (KT.getD i 0)) := by
                            rw [cell_of_row _ _ _ _ _ _ ((hbz.block _ (by omega)).trans J3.out)]
                            have : KT[i]? = some (KT.getD i 0) := by simp [List.getD, show i < KT.length from hlt]
                            show ((KT.map vw).toArray)[i]? = _
                            rw [List.getElem?_toArray, List.getElem?_map, this]
                            rfl
                          have kw := (H1.out.of_block (hbz.block _ lA)).get (i := i) (by rw [length_sched]; exact hlt)
                          have e1 : s.rounds KT (sched pB 64) (i + 1) = (s.rounds KT (sched pB 64) i).round (KT.getD i 0) ((sched pB 64).getD i 0) := rfl
                          have E1 := Lib.hid e1
                          clear e1
                          generalize KT.getD i 0 = xk at kk E1
                          generalize (sched pB 64).getD i 0 = xw at kw E1
                          generalize s.rounds KT (sched pB 64) i = st at hcs E1
                          have c0 : wr.cell? ⟨bw, 0, none⟩ = some (vw st.a) := hcs 0 _ rfl
                          have c1 : wr.cell? ⟨bw, 1, none⟩ = some (vw st.b) := hcs 1 _ rfl
                          have c2 : wr.cell? ⟨bw, 2, none⟩ = some (vw st.c) := hcs 2 _ rfl
                          have c3 : wr.cell? ⟨bw, 3, none⟩ = some (vw st.d) := hcs 3 _ rfl
                          have c4 : wr.cell? ⟨bw, 4, none⟩ = some (vw st.e) := hcs 4 _ rfl
                          have c5 : wr.cell? ⟨bw, 5, none⟩ = some (vw st.f) := hcs 5 _ rfl
                          have c6 : wr.cell? ⟨bw, 6, none⟩ = some (vw st.g) := hcs 6 _ rfl
                          have c7 : wr.cell? ⟨bw, 7, none⟩ = some (vw st.h) := hcs 7 _ rfl
                          have G7 := Lib.hid hbz
                          clear hbz hcs
                          obtain ⟨T1, hT1⟩ : ∃ T1, T1 = st.t xk xw := ⟨_, rfl⟩
                          obtain ⟨U1, hU1⟩ : ∃ U1, U1 = st.u := ⟨_, rfl⟩
                          have HT1 := Lib.hid hT1
                          have HU1 := Lib.hid hU1
                          clear hT1 hU1
                          go_upto_region 31 with fail
                          go_cut [17] from 136 to 249 (fun t wx => t = vw T1 ∧ wx = wr.drew)
                          case first =>
                            refine wp_region_tail 45 (by kernel_rfl) (by kernel_rfl) ?_
                            simp only [List.take_succ_cons, List.take_zero, List.drop_succ_cons, List.drop_zero]
                            have R1 := w_add
                            have R2 := r_and
                            have R3 := r_notm
                            have R4 := r_xor
                            have R5 : IntKind.u32.signed = false := rfl
                            repeat still_step
                            still_call (turn_6 _ _)
                            repeat still_step
                            still_call (turn_11 _ _)
                            repeat still_step
                            still_call (turn_25 _ _)
                            repeat still_step
                            refine wpStill_nil ?_
                            clear R1 R2 R3 R4 R5
                            rw [show bAdd (bAdd (bAdd (bAdd st.h (bXor (bXor (rotr 6 st.e) (rotr 11 st.e)) (rotr 25 st.e))) (bXor (bAnd st.e st.f) (bAnd (bNot st.e) st.g))) xk) xw = T1 from HT1.out.symm]
                            go_wp2
                            go_meet
                            exact ⟨rfl, rfl⟩
                          case rest =>
                          obtain ⟨rfl, rfl⟩ := hcut
                          go_upto_region 32 with fail
                          go_cut [18] from 136 to 249 (fun t wx => t = vw U1 ∧ wx = wr.drew.drew)
                          case first =>
                            refine wp_region_tail 38 (by kernel_rfl) (by kernel_rfl) ?_
                            simp only [List.take_succ_cons, List.take_zero, List.drop_succ_cons, List.drop_zero]
                            have R1 := w_add
                            have R2 := r_and
                            have R4 := r_xor
                            repeat still_step
                            still_call (turn_2 _ _)
                            repeat still_step
                            still_call (turn_13 _ _)
                            repeat still_step
                            still_call (turn_22 _ _)
                            repeat still_step
                            refine wpStill_nil ?_
                            clear R1 R2 R4
                            rw [show bAdd (bXor (bXor (rotr 2 st.a) (rotr 13 st.a)) (rotr 22 st.a)) (bXor (bXor (bAnd st.a st.b) (bAnd st.a st.c)) (bAnd st.b st.c)) = U1 from HU1.out.symm]
                            go_wp2
                            go_meet
                            exact ⟨rfl, rfl⟩
                          case rest =>
                          obtain ⟨rfl, rfl⟩ := hcut
                          go_upto_region 33 with fail
                          refine wp_region_tail 26 (by kernel_rfl) (by kernel_rfl) ?_
                          simp only [List.take_succ_cons, List.take_zero, List.drop_succ_cons, List.drop_zero]
                          have R1 := w_add
                          repeat still_step
                          refine wpStill_nil ?_
                          clear R1
                          refine wpList_build8 _ rfl _ _ _ _ _ _ _ _ rfl (bAdd T1 U1) st.a st.b st.c (bAdd st.d T1) st.e st.f st.g (by rfl) (by rfl) (by rfl) (by rfl) (by rfl) (by rfl) (by rfl) (by rfl) ?_
                          go_wp2
                          have hsw := G7.out.size
                          go_roundw
                          case rel => exact ⟨i + 1, wr.heap.size, 8, by omega, by go_num, rfl, by rw [E1.out, show (st.round xk xw).cs = [vw (bAdd T1 U1), vw st.a, vw st.b, vw st.c, vw (bAdd st.d T1), vw st.e, vw st.f, vw st.g] by rw [HT1.out, HU1.out]; rfl]; exact cellsAt_new wr _ _, hsw, by simp, (((G7.out.alloc hsw _).drew).drew).drew⟩
                          case measure =>
                            change 64 - ((i : Int) + 1).toNat < 64 - ((i : Int)).toNat
                            omega
                          -- }}
                        · obtain rfl : i = 64 := by omega
                          obtain ⟨wE, hwE⟩ : ∃ wE : World, wE = wr := ⟨wr, rfl⟩
                          subst hwE
                          generalize hst0 : s.rounds KT (sched pB 64) 64 = st at hcs
                          have E2 := Lib.hid hst0
                          have hh2 := (hbz.block _ (by omega)).trans H3.out
                          have G1 := Lib.hid hcs
                          have G2 := Lib.hid hbz
                          have G3 := Lib.hid hh2
                          have G4 := hbz.size
                          clear hst0 hcs hbz hh2
                          rw [show ((64 : Nat) : Int) = 64 from rfl]
                          go_wp2
                          go_loopw [252] (fun x wz => ∃ n : Nat, n ≤ 8 ∧ x = .int .i64 n ∧ wz.heap[hb]? = some (.cells (wcs (addL s.l st.l n)).toArray 129 (0, 0)) ∧ wE.grownBy wz (some hb)) (fun x _ => 8 - (intOf x).toNat)
                          case atStart => exact ⟨0, by omega, rfl, by rw [addL_zero]; exact G3.out, World.grownBy.refl _ _⟩
                          case round =>
                            obtain ⟨n8, hn8, rfl, hh, hg8⟩ := hrel
                            by_cases hlt : n8 < 8
                            · as_aux_lemma => -- {{
                              have l1 : s.l.length = 8 := rfl
                              have l2 : st.l.length = 8 := rfl
                              have hcs := G1.out.of_block (hg8.block _ hbw2 (fun e => by have := Option.some.inj e; omega))
                              have ch : wr.cell? ⟨hb, n8, none⟩ = some (vw (s.l.getD n8 0)) := by
                                rw [cell_of_row _ _ _ _ _ _ hh]
                                show ((List.map vw (addL s.l st.l n8)).toArray)[n8]? = _
                                rw [List.getElem?_toArray, List.getElem?_map, addL_get l1 l2 hlt]
                                rfl
                              have hb8 : st.l[n8]? = some (st.l.getD n8 0) := by simp [List.getD, l2, hlt]
                              have cs : wr.cell? ⟨bw, n8, none⟩ = some (vw (st.l.getD n8 0)) := by
                                have := hcs n8 (vw (st.l.getD n8 0)) (by rw [St.cs_l, List.getElem?_map, hb8]; rfl)
                                rwa [Nat.zero_add] at this
                              have hfr : wr.frozen? ⟨hb, n8, none⟩ = false := by simp [World.frozen?, hh]
                              have hset := row_set (n := n8) hh (bAdd (s.l.getD n8 0) (st.l.getD n8 0))
                              rw [addL_set l1 l2 hlt] at hset
                              have K1 := Lib.hid hset
                              have K2 := Lib.hid hg8
                              have b8 : (n8 : Int) < 8 := by omega
                              generalize s.l.getD n8 0 = xs at ch K1
                              generalize st.l.getD n8 0 = xt at cs K1
                              clear hh hg8 l1 l2 hb8 hset hcs
                              go_wp2
                              refine wp_region_tail 12 (by kernel_rfl) (by kernel_rfl) ?_
                              simp only [List.take_succ_cons, List.take_zero, List.drop_succ_cons, List.drop_zero]
                              have R1 := w_add
                              repeat still_step
                              refine wpStill_nil ?_
                              clear R1
                              go_wp2
                              go_roundw
                              case rel => first | exact ⟨n8 + 1, by omega, by go_num, K1.out, grownBy_drew (grownBy_trans K2.out (grownBy_set _ hb _ _))⟩ | ((repeat apply Exists.intro); exact ⟨⟨n8 + 1, by omega, by go_num, K1.out, grownBy_drew (grownBy_trans K2.out (grownBy_set _ hb _ _))⟩, rfl⟩)
                              case measure =>
                                change 8 - ((n8 : Int) + 1).toNat < 8 - ((n8 : Int)).toNat
                                omega
                              -- }}
                            · obtain rfl : n8 = 8 := by omega
                              have hfin : (soak H0 M (n + 1)).l = addL s.l st.l 8 := by
                                rw [addL_all, E1.out]
                                unfold mixS
                                rw [E2.out]
                              have hgf := grownBy_trans (grownBy_trans (grownBy_trans Q2.out ⟨H2.out.os, H2.out.tape, H2.out.output, H2.out.size, fun i hi _ => H2.out.block i hi⟩) ⟨G2.out.os, G2.out.tape, G2.out.output, G2.out.size, fun i hi _ => G2.out.block i hi⟩) hg8
                              rw [← hfin] at hh
                              have T1 := Lib.hid hh
                              have T2 := Lib.hid hgf
                              have he := E2.out
                              clear hh hg8 hgf hfin
                              go_wp2
                              have e64 := E2.out
                              go_roundw
                              case rel => exact ⟨n + 1, by omega, by congr 1; have := W64.out; omega, T1.out, T2.out⟩
                              case measure =>
                                have := W64.out
                                simp [intOf] <;> omega
              -- }}
            · obtain rfl : n = q := by omega
              have hfin : shaB l = (soak H0 M n).out := by
                unfold shaB
                rw [← NP.out, NQ.out, Nat.mul_div_cancel_left _ (by omega)]
              generalize soak H0 M n = sf at hst hfin
              have hdw := (hg.block _ (by have := N2.out.size; omega) (fun e => by have := Option.some.inj e; omega)).trans ((N2.out.block _ (by omega)).trans P4.out)
              have hbf : Below w.heap.size w wr := (P5.out.trans (N2.out.mono (by omega))).grown hg (by have := N2.out.size; omega) (fun k e => by have := Option.some.inj e; omega)
              have lhb := (Array.getElem?_eq_some_iff.1 hst).1
              have D1 := Lib.hid hst
              have D2 := Lib.hid hdw
              have D3 := Lib.hid hbf
              have D4 := Lib.hid hfin
              have D5 : FilledB (wr.alloc (.cells (fillB [] 32) 31)) wr.heap.size 31 [] 32 := ⟨by simp, (MapKept.heap_alloc _ _).1⟩
              have D6 := Lib.hid D5
              have hlt2 : ¬ (((64 * n : Nat) : Int) < (M.length : Int)) := by omega
              have hsf := hbf.size
              clear hst hg hdw hbf hfin D5 hq
              obtain ⟨wF, hwF⟩ : ∃ wF : World, wF = wr := ⟨wr, rfl⟩
              subst hwF
              go_wp2_with (first
                | (refine wpList_allocZ _ rfl 31 rfl _ HZ.out ?_))
              go_loopw [268] (fun x wz => ∃ i : Nat, i ≤ 32 ∧ x = .int .i64 i ∧ FilledB wz wF.heap.size 31 (sf.out.take i) 32 ∧ Below wF.heap.size wF wz) (fun x _ => 32 - (intOf x).toNat)
              case atStart => exact ⟨0, by omega, rfl, D6.out, (Below.refl _ wF).alloc (Nat.le_refl _) _⟩
              case round =>
                obtain ⟨i, hi32, rfl, hf, hbz⟩ := hrel
                by_cases hlt : i < 32
                · as_aux_lemma => -- {{
                  obtain ⟨a, r, hir, hr4⟩ : ∃ a r, i = 4 * a + r ∧ r < 4 := ⟨i / 4, i % 4, by omega, by omega⟩
                  obtain ⟨x, hx0, hx1, hx2, hx3, hx4⟩ := out_at sf (a := a) (by omega)
                  have hdiv : (i : Int) / 4 = (a : Int) := by omega
                  have ch : wr.cell? ⟨hb, a, none⟩ = some (vw x) := by
                    rw [cell_of_row _ _ _ _ _ _ ((hbz.block _ lhb).trans D1.out)]
                    show ((List.map vw sf.l).toArray)[a]? = _
                    rw [List.getElem?_toArray, List.getElem?_map, hx0]
                    rfl
                  have ba : (a : Int) < 8 := by omega
                  have hlen : (sf.out.take i).length = i := by rw [List.length_take, length_out]; omega
                  obtain ⟨⟨z, hz⟩, hfr⟩ := hf.free (i := i) hlt
                  have hr : r = 0 ∨ r = 1 ∨ r = 2 ∨ r = 3 := by omega
                  have b32 : (i : Int) < 32 := by omega
                  rcases hr with rfl | rfl | rfl | rfl
                  · have hmod : (i : Int) % 4 = 0 := by omega
                    have hxx : sf.out[i]? = some (lo8 (bShr 24 x)) := by rw [hir]; exact hx1
                    have htk : sf.out.take (i + 1) = sf.out.take i ++ [lo8 (bShr 24 x)] := by rw [List.take_add_one, hxx]; rfl
                    have hp := hf.push (by omega) (lo8 (bShr 24 x)) hlen.symm
                    rw [← htk] at hp
                    have T1 := Lib.hid hp
                    have T2 := Lib.hid hbz
                    clear hx0 hx1 hx2 hx3 hx4 hxx htk hp hf hbz hir hlen hr4
                    go_wp2
                    rw [o24]
                    go_roundw
                    case rel => exact ⟨i + 1, by omega, by go_num, T1.out, T2.out.setCell (Nat.le_refl _) _⟩
                    case measure =>
                      simp [intOf] <;> omega
                  · have hmod : (i : Int) % 4 = 1 := by omega
                    have hxx : sf.out[i]? = some (lo8 (bShr 16 x)) := by rw [hir]; exact hx2
                    have htk : sf.out.take (i + 1) = sf.out.take i ++ [lo8 (bShr 16 x)] := by rw [List.take_add_one, hxx]; rfl
                    have hp := hf.push (by omega) (lo8 (bShr 16 x)) hlen.symm
                    rw [← htk] at hp
                    have T1 := Lib.hid hp
                    have T2 := Lib.hid hbz
                    clear hx0 hx1 hx2 hx3 hx4 hxx htk hp hf hbz hir hlen hr4
                    go_wp2
                    rw [o16]
                    go_roundw
                    case rel => exact ⟨i + 1, by omega, by go_num, T1.out, T2.out.setCell (Nat.le_refl _) _⟩
                    case measure =>
                      simp [intOf] <;> omega
                  · have hmod : (i : Int) % 4 = 2 := by omega
                    have hxx : sf.out[i]? = some (lo8 (bShr 8 x)) := by rw [hir]; exact hx3
                    have htk : sf.out.take (i + 1) = sf.out.take i ++ [lo8 (bShr 8 x)] := by rw [List.take_add_one, hxx]; rfl
                    have hp := hf.push (by omega) (lo8 (bShr 8 x)) hlen.symm
                    rw [← htk] at hp
                    have T1 := Lib.hid hp
                    have T2 := Lib.hid hbz
                    clear hx0 hx1 hx2 hx3 hx4 hxx htk hp hf hbz hir hlen hr4
                    go_wp2
                    rw [o8]
                    go_roundw
                    case rel => exact ⟨i + 1, by omega, by go_num, T1.out, T2.out.setCell (Nat.le_refl _) _⟩
                    case measure =>
                      simp [intOf] <;> omega
                  · have hmod : (i : Int) % 4 = 3 := by omega
                    have hxx : sf.out[i]? = some (lo8 x) := by rw [hir]; exact hx4
                    have htk : sf.out.take (i + 1) = sf.out.take i ++ [lo8 x] := by rw [List.take_add_one, hxx]; rfl
                    have hp := hf.push (by omega) (lo8 x) hlen.symm
                    rw [← htk] at hp
                    have T1 := Lib.hid hp
                    have T2 := Lib.hid hbz
                    clear hx0 hx1 hx2 hx3 hx4 hxx htk hp hf hbz hir hlen hr4
                    go_wp2
                    rw [o0]
                    go_roundw
                    case rel => exact ⟨i + 1, by omega, by go_num, T1.out, T2.out.setCell (Nat.le_refl _) _⟩
                    case measure =>
                      simp [intOf] <;> omega
                  -- }}
                · obtain rfl : i = 32 := by omega
                  have hfull := hf.full (by rw [List.length_take, length_out]; rfl)
                  rw [List.take_of_length_le (by rw [length_out]; omega), show sf.out = shaB l from D4.out.symm] at hfull
                  have hcd : cellsAt wr _ 0 (bcs (shaB l)) := fun j u hj => by rw [cell_of_row _ _ _ _ _ _ hfull, Nat.zero_add]; simpa using hj
                  have hdd := (hbz.block _ (Array.getElem?_eq_some_iff.1 D2.out).1).trans D2.out
                  have hl32 : (bcs (shaB l)).length = 32 := by rw [bcs_length, length_shaB]
                  have T1 := Lib.hid hcd
                  have T2 := Lib.hid hdd
                  have T3 := Lib.hid hl32
                  have T4 := Lib.hid hbz
                  have T5 := Lib.hid (bcs_one (shaB l))
                  clear hf hbz hfull hcd hdd hl32
                  go_wp2_with (first
                    | (refine wpList_loadAgg _ rfl 31 _ rfl _ Tryz.underlying31 rfl _ 0 (by rfl) (bcs (shaB l)) (by rw [HI.out, T3.out]) T1.out ?_)
                    | (refine wpList_storeRow rfl 31 _ _ rfl T2.out (by rfl) (bcs (shaB l)).toArray (by rfl) (by rw [HI.out, List.size_toArray, T3.out]) (by show 32 = (bcs (shaB l)).length; exact T3.out.symm) (by simpa using T5.out) ?_; intro w6 hw6 hg6 hs6))
                  have hcf : cellsAt w6 w.heap.size 0 (bcs (shaB l)) := fun j u hj => by rw [cell_of_row _ _ _ _ _ _ hw6, Nat.zero_add]; simpa using hj
                  have hbf : Below w.heap.size w w6 := (D3.out.trans (T4.out.mono hsf)).grown hg6 (by have := T4.out.size; omega) (fun k e => by have := Option.some.inj e; omega)
                  refine bodyPost_ret (results_cell rfl (by rfl) (run_loadAgg Tryz.underlying31 rfl (by rw [HI.out, T3.out]) hcf)) rfl ⟨rfl, hbf⟩
end Go.Proofs.YtfoifdhcelcgiaaGreatDoor
