/-
  POST: the document's Sent.
-/
import Derived.Test.YtamnffcafbfojaaRef2
import Derived.Deep.DeepCutAuto
namespace Go.Proofs.Ytamnffcafbfojaa
open Go Go.RowKit

theorem ref_wait {w w' : World} {mb B : Nat} {vW vC : Value} {L : List Dv} {M : List ((Int × Int) × Int)} (h : IsRef w mb B vW vC L M) (hb : Below w.heap.size w w') : w'.heap[mb]? = some (.cells #[vW, vC] tRef (0, 0)) ∧ w'.ownsRow B tMark 3 vC M.length (M.flatMap mcell) :=
  ⟨(hb.block mb h.lt).trans h.box, ownsRow_below h.came hb (Nat.le_refl _)⟩

theorem refDueSize : (Try.prog.info? tDue).map (·.size) = some 3 := by kernel_rfl

theorem owns_le {w : World} {base : Nat} {e : TypeId} {size n cap : Nat} {p : Option Addr} {xs : List Value} (h : w.ownsRow base e size (.slice p n cap) n xs) : n ≤ cap := by
  rcases h.2 with ⟨_, h0⟩ | ⟨g, cap0, cur, hv, _, _, h1, _⟩
  · omega
  · simp at hv; omega

theorem owns_spot {w : World} {base : Nat} {e : TypeId} {size n cap : Nat} {p : Option Addr} {xs : List Value} (h : w.ownsRow base e size (.slice p n cap) n xs) : ∀ a, p = some a → a.spot = none := fun a ha => by
  rcases h.2 with ⟨hv, _⟩ | ⟨g, cap0, cur, hv, _⟩
  · simp at hv; rw [hv.1] at ha; cases ha
  · simp at hv; rw [hv.1] at ha; cases ha; rfl

set_option maxRecDepth 100000 in
set_option maxHeartbeats 4000000 in
theorem rSent_any (mb B : Nat) (vW vC : Value) (L : List Dv) (M : List ((Int × Int) × Int)) (seq mask : Int) (w : World) (h : IsRef w mb B vW vC L M) (hn : L.length ≤ 90000) (hs : Sorted L) :
    Calls Try.prog 17 #[.pointer (some ⟨mb, 0, none⟩), .int .i64 seq, .int .i64 mask] w fun e w' => e = .returned (.tuple #[]) ∧ (∃ vW', IsRef w' mb B vW' vC (rsentN L seq mask 5) M) ∧ Keeps (· = mb) w w' := by
  obtain ⟨i0, hi, hz0, hz1, hz2⟩ := info_parts refDueInfo
  have H := Lib.hid h
  have HS := Lib.hid hs
  clear h hs
  go_enter Try.func17, Try.ntmps17
  go_wp2
  go_loopw [6] (fun i wr => ∃ (n : Nat) (vW' : Value), n ≤ 5 ∧ i = .int .i64 n ∧ IsRef wr mb B vW' vC (rsentN L seq mask n) M ∧ Keeps (· = mb) w wr) (fun i _ => 5 - (intOf i).toNat)
  case atStart => exact ⟨0, vW, by omega, rfl, H.out, Keeps.refl _ _⟩
  case round =>
    obtain ⟨n, vW', hn5, rfl, hr, hbr⟩ := hrel
    by_cases hlt : n < 5
    · have hnx : rsentN L seq mask (n + 1) = if odd mask n then ins seq n (acked (rsentN L seq mask n) ((n : Int), seq)) else rsentN L seq mask n := rfl
      have hsN := sorted_rsentN HS.out seq mask n
      have hlN := length_rsentN L seq mask n
      have H1 := Lib.hid hr
      have H2 := Lib.hid hbr
      have H3 := Lib.hid hsN
      have H4 := Lib.hid hlN
      have H5 := Lib.hid hnx
      clear hr hbr hsN hlN hnx
      generalize rsentN L seq mask n = LN at H1 H3 H4 H5
      cases hb : odd mask n with
      | false =>
        have HB := Lib.hid hb
        unfold odd at hb
        go_wp2
        go_roundw
        case rel => exact ⟨n + 1, vW', by omega, by go_num, by rw [H5.out, HB.out]; exact H1.out, H2.out⟩
        case measure => simp [intOf]; omega
      | true =>
        have HB := Lib.hid hb
        unfold odd at hb
        go_wp2_with fail
        refine (rAcked_any mb B vW' vC LN M seq n wr H1.out (by have := H4.out; omega) (sorted_keys H3.out)).mono ?_
        rintro e w1 ⟨rfl, ⟨vW1, hr1⟩, hb1⟩
        obtain ⟨pv, capv, rfl⟩ := owns_slice hr1.wait
        have hsA := sorted_acked H3.out ((n : Int), seq)
        have hlA := length_acked LN ((n : Int), seq)
        have hnx : rsentN L seq mask (n + 1) = ins seq n (acked LN ((n : Int), seq)) := by rw [H5.out, HB.out]; rfl
        have hLA : (acked LN ((n : Int), seq)).length ≤ 90010 := by have := H4.out; omega
        generalize acked LN ((n : Int), seq) = LA at *
        have c0 : w1.cell? ⟨mb, 0, none⟩ = some (.slice pv LA.length capv) := by simp [World.cell?, hr1.box]
        have hmb := hr1.lt
        have hBmb := hr1.at_
        have hcap := owns_le hr1.wait
        have hsz1 : B ≤ w1.heap.size := by omega
        have hb01 := H2.out.trans hb1
        have K1 := Lib.hid hr1
        have K2 := Lib.hid hb01
        have K3 := Lib.hid hnx
        have K4 := Lib.hid (owns_spot hr1.wait)
        clear hr1 hb1 hb01 hsA hlA hnx
        go_wp2_with fail
        go_loopw [7] (fun i wr => ∃ k : Nat, k ≤ LA.length ∧ i = .int .i64 k ∧ (∀ j, j < k → sbef seq n LA[j]! = true) ∧ wr = w1) (fun i _ => LA.length - (intOf i).toNat)
        case atStart => exact ⟨0, by omega, rfl, fun j hj => by omega, rfl⟩
        case round =>
          obtain ⟨k, hk, rfl, hall, rfl⟩ := hrel
          have hcell : k < LA.length → ∃ g : Nat, pv = some ⟨g, 0, none⟩ ∧ wr.cell? ⟨g, k * 3, none⟩ = some (.int .i64 LA[k]!.seq) ∧ wr.cell? ⟨g, k * 3 + 1, none⟩ = some (.int .i64 LA[k]!.to) := fun hlk => by
            obtain ⟨g, rfl⟩ := owns_some K1.out.wait (by omega)
            have hcl : ∀ m, m < 3 → wr.cell? ⟨g, k * 3 + m, none⟩ = some ((lcell LA[k]!)[m]!) := fun m hm => owned_cell (enc := lcell) (fun _ => rfl) K1.out.wait hlk hm
            exact ⟨g, rfl, hcl 0 (by omega), hcl 1 (by omega)⟩
          have hone : k < LA.length → sbef seq n LA[k]! = true → ∀ j, j < k + 1 → sbef seq n LA[j]! = true := fun _ h j hj => by
            rcases Nat.lt_or_ge j k with hj' | hj'
            · exact hall j hj'
            · obtain rfl : j = k := by omega
              exact h
          have hcase : (∃ (g : Nat) (d : Dv), pv = some ⟨g, 0, none⟩ ∧ k < LA.length ∧ wr.cell? ⟨g, k * 3, none⟩ = some (.int .i64 d.seq) ∧ wr.cell? ⟨g, k * 3 + 1, none⟩ = some (.int .i64 d.to) ∧ d.seq < seq ∧ Hid (∀ j, j < k + 1 → sbef seq n LA[j]! = true)) ∨
              (∃ (g : Nat) (d : Dv), pv = some ⟨g, 0, none⟩ ∧ k < LA.length ∧ wr.cell? ⟨g, k * 3, none⟩ = some (.int .i64 d.seq) ∧ wr.cell? ⟨g, k * 3 + 1, none⟩ = some (.int .i64 d.to) ∧ ¬ d.seq < seq ∧ (d.seq == seq) = true ∧ d.to < n ∧ Hid (∀ j, j < k + 1 → sbef seq n LA[j]! = true)) ∨
              (∃ (g : Nat) (d : Dv), pv = some ⟨g, 0, none⟩ ∧ k < LA.length ∧ wr.cell? ⟨g, k * 3, none⟩ = some (.int .i64 d.seq) ∧ wr.cell? ⟨g, k * 3 + 1, none⟩ = some (.int .i64 d.to) ∧ ¬ d.seq < seq ∧ (d.seq == seq) = true ∧ ¬ d.to < n ∧ Hid (k < LA.length → sbef seq n LA[k]! = false)) ∨
              (∃ (g : Nat) (d : Dv), pv = some ⟨g, 0, none⟩ ∧ k < LA.length ∧ wr.cell? ⟨g, k * 3, none⟩ = some (.int .i64 d.seq) ∧ wr.cell? ⟨g, k * 3 + 1, none⟩ = some (.int .i64 d.to) ∧ ¬ d.seq < seq ∧ (d.seq == seq) = false ∧ Hid (k < LA.length → sbef seq n LA[k]! = false)) ∨
              (¬ k < LA.length ∧ Hid (k < LA.length → sbef seq n LA[k]! = false)) := by
            rcases Nat.lt_or_ge k LA.length with hlk | hlk
            · obtain ⟨g, e1, e2, e3⟩ := hcell hlk
              by_cases t1 : LA[k]!.seq < seq
              · exact .inl ⟨g, _, e1, hlk, e2, e3, t1, hone hlk (sbef_yes.2 (.inl t1))⟩
              · by_cases t2 : LA[k]!.seq = seq
                · by_cases t3 : LA[k]!.to < n
                  · exact .inr (.inl ⟨g, _, e1, hlk, e2, e3, t1, by simpa using t2, t3, hone hlk (sbef_yes.2 (.inr ⟨t2, t3⟩))⟩)
                  · exact .inr (.inr (.inl ⟨g, _, e1, hlk, e2, e3, t1, by simpa using t2, t3, fun _ => by rw [Bool.eq_false_iff]; intro h; rw [sbef_yes] at h; omega⟩))
                · exact .inr (.inr (.inr (.inl ⟨g, _, e1, hlk, e2, e3, t1, by simpa using t2, fun _ => by rw [Bool.eq_false_iff]; intro h; rw [sbef_yes] at h; omega⟩)))
            · exact .inr (.inr (.inr (.inr ⟨by omega, fun h => by omega⟩)))
          have HA := Lib.hid hall
          clear hall hcell hone
          rcases hcase with ⟨g, d, rfl, hlk, k0, k1, t1, HO⟩ | ⟨g, d, rfl, hlk, k0, k1, t1, t2, t3, HO⟩ | ⟨g, d, rfl, hlk, k0, k1, t1, t2, t3, HX⟩ | ⟨g, d, rfl, hlk, k0, k1, t1, t2, HX⟩ | ⟨hlk, HX⟩
          · go_wp2
            go_roundw
            case rel => exact ⟨k + 1, by omega, by go_num, HO.out, trivial⟩
            case measure => simp [intOf]; omega
          · go_wp2
            go_roundw
            case rel => exact ⟨k + 1, by omega, by go_num, HO.out, trivial⟩
            case measure => simp [intOf]; omega
          all_goals
            have hw2 : Below wr.heap.size wr (wr.alloc (.cells #[] tDue)) := (Below.refl _ wr).alloc (Nat.le_refl _) _
            have hsrc := ownsRow_src K1.out.wait
            have hblk := fun (b off : Nat) e => (ownsRow_at K1.out.wait (b := b) (off := off) e).2.1
            have hown0 := own_none wr B tDue 3 hsz1
            have W1 := Lib.hid hw2
            have W2 := Lib.hid hsrc
            have W3 := Lib.hid hblk
            have W4 := Lib.hid hown0
            have W5 := Lib.hid (hsrc.below hblk hw2)
            clear hw2 hsrc hblk hown0
            go_upto_region 8 with (fail)
            go_upto_region 9 with (first
              | (refine wpList_slice_lo (by rfl) 48 _ _ (by rfl) tDue 3 Try.underlying48 refDueSize _ LA.length capv k .i64 (by rfl) (by rfl) hk hcap (LA.flatMap lcell) (flat_length _) W5.out K4.out ?_
                 intro A hA1 hA2 hA3
                 have W6 := Lib.hid hA1
                 have W7 := Lib.hid hA2
                 have W8 := Lib.hid hA3
                 clear hA1 hA2 hA3)
              | (at_builtin
                 refine wpList_append_src (by rfl) _ _ 48 (by rfl) B tDue i0 _ 3 24 Try.underlying48 hi hz0 hz1 hz2 rfl (by decide) (.slice (some ⟨wr.heap.size, 0, none⟩) 0 0) 0 [] (by rfl) W4.out A (LA.length - k) (capv - k) ((LA.flatMap lcell).drop (k * 3)) (by rfl) (by rw [List.length_drop, flat_length]; omega) W6.out W7.out (fun u hu => flat_one _ u (List.mem_of_mem_drop hu)) (by unfold maxLen; omega) (by omega) (by simp; omega) ?_
                 intro v3 w3 hown3 hg3 hat3
                 obtain ⟨p3, cap3, rfl⟩ := owns_slice hown3))
            have hb3 : Below wr.heap.size wr w3 := W1.out.grown hg3 W1.out.size (fun r e => by cases e; exact Nat.le_refl _)
            have c3 := (hb3.cell (p := ⟨mb, 0, none⟩) hmb).trans c0
            have hb4 : Below wr.heap.size wr (w3.alloc (.cells #[.int .i64 seq, .int .i64 n, .int .i64 0] tDue)) := hb3.alloc hb3.size _
            have hs3 := ownsRow_src hown3
            have hat3' : ∀ b off, p3 = some ⟨b, off, none⟩ → b < w3.heap.size := fun b off e => (ownsRow_at hown3 e).2.1
            have Y1 := Lib.hid hb3
            have Y2 := Lib.hid (W2.out.below W3.out hb4)
            have Y3 := Lib.hid hs3
            have Y4 := Lib.hid hat3'
            have Y5 := Lib.hid hb3.size
            have Y6 := Lib.hid (owns_spot hown3)
            clear hown3 hg3 hat3 hb3 hb4 hs3 hat3'
            go_wp2_with (first
              | (refine wpList_slice_full (by rfl) 48 _ _ _ (by rfl) tDue 3 Try.underlying48 refDueSize _ LA.length capv k .i64 .i64 (by rfl) (by rfl) (by rfl) (by omega) K4.out ?_)
              | (at_builtin
                 refine wpList_append_full (by rfl) _ _ 48 (by rfl) B tDue i0 _ 3 24 Try.underlying48 hi hz0 hz1 hz2 rfl (by decide) _ k (by rfl) ((LA.flatMap lcell).take (k * 3)) (by rw [List.length_take, flat_length]; omega) (Y2.out.take _) K4.out ⟨w3.heap.size, 0, none⟩ 1 1 (by rfl) [.int .i64 seq, .int .i64 n, .int .i64 0] rfl
                   (cells_new w3 [.int .i64 seq, .int .i64 n, .int .i64 0] tDue) (by simp [Value.oneCell']) (by decide) (by unfold maxLen; omega) (by omega) (by simp; have := Y5.out; omega) ?_
                 intro v5 w5 hown5 hg5 hat5
                 obtain ⟨p5, cap5, rfl⟩ := owns_slice hown5
                 have Z1 := Lib.hid hown5
                 have hb5 : Below w3.heap.size w3 w5 := ((Below.refl _ w3).alloc (Nat.le_refl _) _).grown hg5 (by simp) (fun r e => by cases e)
                 have Z2 := Lib.hid hb5
                 have Z3 := Lib.hid hat5
                 have Z4 := Lib.hid (Y3.out.below Y4.out hb5)
                 clear hown5 hg5 hat5 hb5)
              | (at_builtin
                 refine wpList_append_src (by rfl) _ _ 48 (by rfl) B tDue i0 _ 3 24 Try.underlying48 hi hz0 hz1 hz2 rfl (by decide) (.slice p5 (k + 1) cap5) (k + 1) ((LA.flatMap lcell).take (k * 3) ++ [.int .i64 seq, .int .i64 n, .int .i64 0]) (by rfl) Z1.out p3 (LA.length - k) cap3 ([] ++ (LA.flatMap lcell).drop (k * 3)) (by rfl) (by rw [List.nil_append, List.length_drop, flat_length]; omega) Z4.out Y6.out
                   (fun u hu => flat_one _ u (List.mem_of_mem_drop (by simpa using hu))) (by unfold maxLen; omega) (by omega) (by have := Y5.out; have := Z2.out.size; omega) ?_
                 intro v6 w6 hown6 hg6 hat6
                 obtain ⟨p6, cap6, rfl⟩ := owns_slice hown6
                 have hb6 : Below wr.heap.size wr w6 := (Y1.out.trans (Z2.out.mono Y5.out)).grown hg6 (by have := Y5.out; have := Z2.out.size; omega) (fun r e => by rw [Z3.out] at e; cases e; simp; have := Y5.out; omega)
                 have hbx := (ref_wait K1.out hb6)
                 have c6 : w6.cell? ⟨mb, 0, none⟩ = some (.slice _ LA.length capv) := (hb6.cell (p := ⟨mb, 0, none⟩) hmb).trans c0
                 have f6 : w6.frozen? ⟨mb, 0, none⟩ = false := by simp [World.frozen?, hbx.1]
                 have Z5 := Lib.hid hown6
                 have Z6 := Lib.hid hb6
                 have Z7 := Lib.hid hbx
                 clear hown6 hg6 hat6 hb6 hbx))
            go_roundw
            case rel =>
              have hins := ins_at (s := seq) (t := n) hk HA.out HX.out
              have hlen : k + 1 + (LA.length - k) = (ins seq n LA).length := by rw [(perm_ins _ _ _).length_eq]; simp only [List.length_cons]; omega
              have hrow := Z5.out
              rw [flat_take, flat_drop, List.nil_append] at hrow
              have hcells : (LA.take k).flatMap lcell ++ [.int .i64 seq, .int .i64 n, .int .i64 0] ++ (LA.drop k).flatMap lcell = (ins seq n LA).flatMap lcell := by
                rw [hins, List.flatMap_append, List.flatMap_cons, List.append_assoc]; rfl
              rw [hcells, hlen] at hrow
              rw [hlen]
              exact ⟨n + 1, _, by omega, by go_num, by rw [K3.out]; exact ref_setW Z7.out.1 hBmb hrow Z7.out.2, K2.out.trans (keeps_setCell Z6.out _)⟩
            case measure => simp [intOf]; omega
    · obtain rfl : n = 5 := by omega
      go_wp2
      go_end0
      exact ⟨rfl, ⟨vW', hr⟩, hbr⟩
end Go.Proofs.Ytamnffcafbfojaa
