/-
  slices.IndexFunc and slices.DeleteFunc at the operations of a row.
-/
import Derived.Test.YtfoifdhcelcgiaaGreatDoorDelP
import Derived.Test.YtfoifdhcelcgiaaGreatDoorPastO
namespace Go.Proofs.YtfoifdhcelcgiaaGreatDoor
open Go Go.RowKit

set_option maxRecDepth 100000 in
set_option maxHeartbeats 4000000 in
theorem opidx_any (blk cap : Nat) (L : List E3) (w : World) (h : DelSt w blk cap L) (g : Nat) (lb : Array Value) (eg : ∀ args w, (callFunc g args).run Tryz.prog w = .ok (.enter g args) w) (q : E3 → Bool)
    (hp : ∀ W, Keeps (fun i => i = blk) w W → ∀ e ∈ L, Calls Tryz.prog g (#[.agg e.cs.toArray] ++ lb) W fun e' w' => e' = .returned (.bool (q e)) ∧ Below W.heap.size W w') (hL : L.length ≤ 1000000) :
    Calls Tryz.prog 79 #[.slice (some ⟨blk, 0, none⟩) L.length cap, .func (.func g) #[] lb] w fun e w' => ∃ r : Int, e = .returned (.int .i64 r) ∧ ((r = -1 ∧ ∀ x ∈ L, q x = false) ∨ ∃ (k : Nat) (e0 : E3), r = k ∧ L[k]? = some e0 ∧ q e0 = true ∧ ∀ x ∈ L.take k, q x = false) ∧ Below w.heap.size w w' := by
  have HH := Lib.hid h
  have HP := Lib.hid hp
  clear h hp
  go_enter Tryz.func79, Tryz.ntmps79
  go_upto_region 2 with fail
  go_loopw [8] (fun i wr => ∃ n : Nat, n ≤ L.length ∧ i = .int .i64 n ∧ Hid (∀ x ∈ L.take n, q x = false) ∧ Hid (Below w.heap.size w wr)) (fun i _ => L.length - (intOf i).toNat)
  case atStart => exact ⟨0, by omega, rfl, Lib.hid (by simp), Lib.hid (Below.refl _ _)⟩
  case round =>
    obtain ⟨n, hn1, rfl, HF, HB⟩ := hrel
    by_cases hlt : n < L.length
    · obtain ⟨e, he⟩ : ∃ e, L[n]? = some e := ⟨_, List.getElem?_eq_getElem hlt⟩
      have HE := Lib.hid he
      have HD := Lib.hid (HH.out.under HB.out)
      have HC := Lib.hid (HD.out.at_ he)
      have h38 := HH.out.1 e (List.mem_of_getElem? he)
      have H38 := Lib.hid h38
      have hcall := HP.out wr (Keeps.of_below HB.out) e (List.mem_of_getElem? he)
      clear he h38
      cases hq : q e with
      | true =>
        rw [hq] at hcall
        have HCL := Lib.hid hcall
        clear hcall
        go_wp2_with (first
          | (refine wpList_loadAgg _ rfl 46 _ rfl _ Tryz.underlying46 rfl blk (n * 38) (by first | rfl | simp) e.cs (by rw [opInfo, H38.out]) HC.out ?_)
          | (go_at_fn g; refine HCL.out.mono ?_; rintro e' w' ⟨rfl, hb'⟩))
        go_ret
        exact ⟨_, rfl, .inr ⟨n, e, rfl, HE.out, hq, HF.out⟩, HB.out.trans (hb'.mono HB.out.size)⟩
      | false =>
        rw [hq] at hcall
        have HCL := Lib.hid hcall
        clear hcall
        go_wp2_with (first
          | (refine wpList_loadAgg _ rfl 46 _ rfl _ Tryz.underlying46 rfl blk (n * 38) (by first | rfl | simp) e.cs (by rw [opInfo, H38.out]) HC.out ?_)
          | (go_at_fn g; refine HCL.out.mono ?_; rintro e' w' ⟨rfl, hb'⟩))
        go_roundw
        case rel =>
          refine ⟨n + 1, by omega, by go_num, Lib.hid fun x hx => ?_, Lib.hid (HB.out.trans (hb'.mono HB.out.size))⟩
          rw [List.take_add_one, HE.out] at hx
          rcases List.mem_append.1 hx with h1 | h1
          · exact HF.out x h1
          · simp at h1
            rw [h1]; exact hq
        case measure => simp [intOf] <;> omega
    · obtain rfl : n = L.length := by omega
      go_wp2
      go_ret
      exact ⟨_, rfl, .inl ⟨rfl, fun x hx => HF.out x (by rw [List.take_length]; exact hx)⟩, HB.out⟩

set_option maxRecDepth 100000 in
set_option maxHeartbeats 8000000 in
theorem opdel_any (blk cap : Nat) (L : List E3) (w : World) (h : DelSt w blk cap L) (hone : ∀ e ∈ L, ∀ u ∈ e.cs, u.oneCell' = true) (g : Nat) (lb : Array Value) (eg : ∀ args w, (callFunc g args).run Tryz.prog w = .ok (.enter g args) w) (q : E3 → Bool)
    (hp : ∀ W, Keeps (fun i => i = blk) w W → ∀ e ∈ L, Calls Tryz.prog g (#[.agg e.cs.toArray] ++ lb) W fun e' w' => e' = .returned (.bool (q e)) ∧ Below W.heap.size W w') (hL : L.length ≤ 1000000) :
    Calls Tryz.prog 47 #[.slice (some ⟨blk, 0, none⟩) L.length cap, .func (.func g) #[] lb] w fun e w' => e = .returned (.slice (some ⟨blk, 0, none⟩) (L.filter fun e => !q e).length cap) ∧ DelSt w' blk cap (L.filter fun e => !q e) ∧ Keeps (fun i => i = blk) w w' := by
  have HIX := Lib.hid (opidx_any blk cap L w h g lb eg q hp hL)
  obtain ⟨hzo, _⟩ := info_two opZero
  obtain ⟨F, hF⟩ : ∃ F, F = L.filter fun e => !q e := ⟨_, rfl⟩
  rw [← hF]
  have HFF := Lib.hid hF
  have HZO := Lib.hid hzo
  have HH := Lib.hid h
  have HP := Lib.hid hp
  have HON := Lib.hid hone
  have hcap : L.length ≤ cap := h.2.1
  have hcap2 : cap ≤ maxLen := h.2.2.1
  clear h hp hzo hone hF
  go_enter Tryz.func47, Tryz.ntmps47
  go_upto_region 2 with (go_at_call 79; refine HIX.out.mono ?_; rintro e w1 ⟨r, rfl, hr, hb1⟩)
  rcases hr with ⟨rfl, hall⟩ | ⟨k, e0, rfl, hk, hq0, hlow⟩
  · have hFL : F = L := by rw [HFF.out]; exact List.filter_eq_self.2 fun x hx => by simp [hall x hx]
    go_wp2
    go_ret
    rw [hFL]
    exact ⟨rfl, HH.out.under hb1, Keeps.of_below hb1⟩
  · have hkl := (List.getElem?_eq_some_iff.1 hk).1
    have HK0 := Lib.hid (show Kept q L L k (k + 1) from by
      have hs : Kept q L L k (k + 1) := by
        refine ⟨rfl, by omega, hkl, ?_, rfl⟩
        rw [List.take_add_one, hk, List.filter_append]
        rw [List.filter_eq_self.2 fun x hx => by simp [hlow x hx]]
        simp [hq0]
      exact hs)
    have hne : ((k : Int) == -1) = false := beq_eq_false_iff_ne.2 (by omega)
    have HD1 := Lib.hid (HH.out.under hb1)
    have HB1 := Lib.hid (show Keeps (fun i => i = blk) w w1 from Keeps.of_below hb1)
    clear hk hq0 hlow hb1
    go_upto_region 5 with fail
    clear hne
    go_loopw [5, 6] (fun i j wr => ∃ (i' j' : Nat) (Lc : List E3), i = .int .i64 i' ∧ j = .int .i64 j' ∧ i' < j' ∧ j' ≤ L.length ∧ Hid (Kept q L Lc i' j') ∧ Hid (DelSt wr blk cap Lc) ∧ Hid (∀ e ∈ Lc, e ∈ L) ∧ Hid (Keeps (fun i => i = blk) w wr)) (fun _ j _ => L.length - (intOf j).toNat)
    case atStart => exact ⟨k, k + 1, L, rfl, by go_num, by omega, by omega, HK0, HD1, Lib.hid fun e he => he, HB1⟩
    case round =>
      obtain ⟨i, j, Lc, rfl, rfl, hij, hjl, HK, HD, HIN, HB⟩ := hrel
      have hltw := HD.out.lt
      by_cases hlt : j < L.length
      · obtain ⟨e, he⟩ : ∃ e, L[j] = e := ⟨_, rfl⟩
        have HE := Lib.hid he
        have hej := HK.out.at_ hlt
        rw [he] at hej
        have hmem : e ∈ L := by rw [← he]; exact List.getElem_mem hlt
        have HMEM := Lib.hid hmem
        have HC := Lib.hid (HD.out.at_ hej)
        have H38 := Lib.hid (HH.out.1 e hmem)
        have HONE := Lib.hid (HON.out e hmem)
        have HSZ := Lib.hid (show (zeroOp.cs none 0).toArray.size = e.cs.toArray.size by rw [List.size_toArray, List.size_toArray, H38.out]; rfl)
        clear he hej hmem
        go_upto_region 8 with (first
          | (refine wpList_loadAgg _ rfl 46 _ rfl _ Tryz.underlying46 rfl blk (j * 38) (by first | rfl | simp) e.cs (by rw [opInfo, H38.out]) HC.out ?_)
          | (refine wpList_allocZ _ rfl 46 rfl _ HZO.out ?_)
          | (refine wpList_storeNew _ wr rfl 46 _ _ rfl (zeroOp.cs none 0).toArray rfl (by rfl) e.cs.toArray (by rfl) (by rw [opInfo, List.size_toArray, H38.out]) HSZ.out (by simpa using HONE.out) ?_))
        obtain ⟨w6, hw6⟩ : ∃ w6, w6 = wr.alloc (.cells e.cs.toArray 46) := ⟨_, rfl⟩
        rw [← hw6]
        obtain ⟨kx, hkx⟩ : ∃ k, k = wr.heap.size := ⟨_, rfl⟩
        rw [← hkx]
        have hb6 : Below wr.heap.size wr w6 := by rw [hw6]; exact (Below.refl _ wr).alloc (Nat.le_refl _) _
        have hk6 : kx < w6.heap.size := by rw [hw6, hkx]; simp
        have hkb : kx ≠ blk := by omega
        have HX6 := Lib.hid (show cellsAt w6 kx 0 e.cs by rw [hw6, hkx]; simpa using cellsAt_new wr e.cs.toArray 46)
        have HD6 := Lib.hid (HD.out.under hb6)
        have HB6 := Lib.hid (HB.out.trans (Keeps.of_below hb6))
        clear hw6 hkx hb6
        have hcall := HP.out w6 HB6.out e HMEM.out
        cases hq : q e with
        | false =>
          rw [hq] at hcall
          have HCL := Lib.hid hcall
          clear hcall
          go_upto_region 9 with (first
            | (refine wpList_loadAgg _ rfl 46 _ rfl _ Tryz.underlying46 rfl kx 0 (by rfl) e.cs (by rw [opInfo, H38.out]) HX6.out ?_)
            | (go_at_fn g; refine HCL.out.mono ?_; rintro e' w7 ⟨rfl, hb7⟩))
          have HX7 := Lib.hid (HX6.out.of_block (hb7.block _ hk6))
          have HD7 := Lib.hid (HD6.out.under hb7)
          have HB7 := Lib.hid (HB6.out.trans (Keeps.of_below hb7))
          have hilc : i < Lc.length := by rw [HK.out.len]; omega
          obtain ⟨cur, hcur, hcl⟩ : ∃ cur, w7.heap[blk]? = some (.cells cur 46 (0, 0)) ∧ i * 38 + 38 ≤ cur.size := by
            obtain ⟨_, h2, _, cur, h4, h5, _⟩ := HD7.out
            exact ⟨cur, h4, by omega⟩
          have HCUR := Lib.hid hcur
          have HCLL := Lib.hid (show i * 38 + e.cs.length ≤ cur.size by rw [H38.out]; exact hcl)
          clear hcur hcl hb7
          go_upto_region 10 with (first
            | (refine wpList_loadAgg _ rfl 46 _ rfl _ Tryz.underlying46 rfl kx 0 (by rfl) e.cs (by rw [opInfo, H38.out]) HX7.out ?_)
            | (refine wpList_storeAt rfl 46 _ _ rfl (b := blk) (off := i * 38) HCUR.out (by first | rfl | simp) e.cs (by rfl) (by rw [opInfo, H38.out]) HCLL.out HONE.out ?_; intro w8 hc8 hg8 hs8))
          have HD8 := Lib.hid (HD7.out.set hilc H38.out HCUR.out hc8)
          have HB8 := Lib.hid (HB7.out.trans (Keeps.of_grown hg8 rfl))
          clear hc8 hg8
          go_wp2
          go_roundw
          case rel => exact ⟨i + 1, j + 1, Lc.set i e, by go_num, by go_num, by omega, by omega, Lib.hid (by rw [← HE.out]; exact HK.out.keep hlt (by rw [HE.out]; exact hq)), HD8, Lib.hid (fun x hx => (List.mem_or_eq_of_mem_set hx).elim (HIN.out x) (fun e' => by rw [e']; exact HMEM.out)), HB8⟩
          case measure => simp [intOf] <;> omega
        | true =>
          rw [hq] at hcall
          have HCL := Lib.hid hcall
          clear hcall
          go_wp2_with (first
            | (refine wpList_loadAgg _ rfl 46 _ rfl _ Tryz.underlying46 rfl kx 0 (by rfl) e.cs (by rw [opInfo, H38.out]) HX6.out ?_)
            | (go_at_fn g; refine HCL.out.mono ?_; rintro e' w7 ⟨rfl, hb7⟩))
          go_roundw
          case rel => exact ⟨i, j + 1, Lc, rfl, by go_num, by omega, by omega, Lib.hid (HK.out.skip hlt (by rw [HE.out]; exact hq)), Lib.hid (HD6.out.under hb7), HIN, Lib.hid (HB6.out.trans (Keeps.of_below hb7))⟩
          case measure => simp [intOf] <;> omega
      · obtain rfl : j = L.length := by omega
        obtain ⟨hLF, hil⟩ := HK.out.done
        rw [← HFF.out] at hLF
        have hFl : F.length = i := by rw [← hLF, List.length_take]; omega
        obtain ⟨cur, hcur, hcl⟩ : ∃ cur, wr.heap[blk]? = some (.cells cur 46 (0, 0)) ∧ L.length * 38 ≤ cur.size := by
          obtain ⟨_, h2, _, cur, h4, h5, _⟩ := HD.out
          have := HK.out.len
          exact ⟨cur, h4, by omega⟩
        obtain ⟨vs, hvl, hclr⟩ : ∃ vs : List Value, vs.length = (L.length - i) * 38 ∧ ∀ ty, (Builtin.clear_ #[35] ty #[.slice (some ⟨blk, i * 38, none⟩) (L.length - i) (cap - i)]).run Tryz.prog wr = .ok (.tuple #[]) (wr.setRow blk (midA cur (i * 38) vs)) :=
          run_clear_mid wr 35 46 _ (L.length - i) 38 Tryz.underlying35 (HZO.out wr) rfl (by simpa [Value.cells] using OpV.cs_one zeroOp none 0) (by omega) blk (i * 38) (cap - i) (by omega) cur 46 hcur (by omega)
        obtain ⟨k1, k2, k3⟩ := setRow_grown (cs := midA cur (i * 38) vs) hcur
        obtain ⟨wz, hwz⟩ : ∃ wz, wz = wr.setRow blk (midA cur (i * 38) vs) := ⟨_, rfl⟩
        rw [← hwz] at hclr k1 k2 k3
        have HDz := Lib.hid (show DelSt wz blk cap F by rw [← hLF]; exact HD.out.first hil hcur (by rw [hvl]; omega) k1)
        have HBz := Lib.hid (HB.out.trans (Keeps.of_grown k2 rfl))
        have hclv : ∀ ty, (Builtin.clear_ #[35] ty #[.slice (loP (some ⟨blk, 0, none⟩) cap i 38) (L.length - i) (cap - i)]).run Tryz.prog wr = .ok (.tuple #[]) wz := fun ty => by
          have hci : cap ≠ i := by omega
          have h0 := hclr ty
          have hadd : (⟨blk, 0, none⟩ : Addr).add (i * 38) = ⟨blk, i * 38, none⟩ := by unfold Addr.add; split <;> simp_all
          simp only [loP, if_neg hci, Option.map_some, hadd]
          exact h0
        have HFL := Lib.hid hFl
        clear hLF hil hcur hcl hvl hclr k1 k2 k3 hwz hFl
        go_wp2_with (first
          | (refine wpList_lo rfl 35 _ _ rfl 46 38 Tryz.underlying35 opInfo (some ⟨blk, 0, none⟩) L.length cap i .i64 (by rfl) (by rfl) (by omega) ?_)
          | (refine wpList_hiR rfl 35 _ _ rfl 46 38 Tryz.underlying35 opInfo (some ⟨blk, 0, none⟩) L.length cap i .i64 (by rfl) (by rfl) (by omega) (fun a e => by have := Option.some.inj e; subst this; rfl) ?_))
        go_ret
        rw [HFL.out]
        exact ⟨rfl, HDz.out, HBz.out⟩
end Go.Proofs.YtfoifdhcelcgiaaGreatDoor
