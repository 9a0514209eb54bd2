/-
  POST: Tick.
-/
import Derived.Test.YtamnffcafbfojaaDues
namespace Go.Proofs.Ytamnffcafbfojaa
open Go Go.RowKit Go.MapKept

section
variable {P : Program} {k : TypeId} {w w' : World} {b r : Nat} {L L' left : List (Value × Value)}

theorem iterOn.permL (h : iterOn P k w r b L left) (hp : L.Perm L') : iterOn P k w r b L' left := by
  obtain ⟨es, clock, since, seen, c0, h1, h2, h3, h4, h5⟩ := h
  exact ⟨es, clock, since, seen, c0, h1, h2, h3, h4.trans hp, h5⟩

theorem hasMap.look_in {t e : TypeId} (h : hasMap P k w b L) (K : Maps.Keyed P k) (ht : P.underlying t = some (.map k e)) {z : Value} (hz : (zeroValue e).run P w = .ok z w) {key v : Value} {kl : Lit} (hkey : keyOf P k key = some kl) (hin : (key, v) ∈ L) :
    (Instr.lookup t (.map (some b)) key false).run P w = .ok v w := by
  rcases h.look K ht hz hkey false with ⟨hno, _⟩ | ⟨u, hu, hrun⟩
  · exact absurd hin (hno v)
  · have : u = v := by
      have hd := h.nodup
      clear hrun h
      induction L with
      | nil => simp at hin
      | cons a L ih =>
        simp only [List.map_cons, List.nodup_cons] at hd
        rcases List.mem_cons.1 hin with h1 | h1
        · rcases List.mem_cons.1 hu with h2 | h2
          · rw [← h1] at h2; exact (Prod.mk.inj h2).2
          · exact absurd (List.mem_map.2 ⟨_, h2, by rw [← h1]⟩) hd.1
        · rcases List.mem_cons.1 hu with h2 | h2
          · exact absurd (List.mem_map.2 ⟨_, h1, by rw [← h2]⟩) hd.1
          · exact ih h1 h2 hd.2
    rw [← this]
    exact hrun
end

def older (d : Dv) : Dv := { d with age := IntKind.i64.wrap (d.age + 1) }
def pr (d : Dv) : Value × Value := (kv d.key, wval d)

set_option maxRecDepth 100000 in
set_option maxHeartbeats 400000 in
theorem tick_any (pb mw mc : Nat) (W : List Dv) (C : List ((Int × Int) × Int)) (w : World) (h : IsPost w pb mw mc W C) (hI : ∀ d ∈ W, I64 d.to ∧ I64 d.seq) :
    Calls Try.prog 13 #[.pointer (some ⟨pb, 0, none⟩)] w fun e w' => e = .returned (.tuple #[]) ∧ IsPost w' pb mw mc (W.map older) C ∧ w.grownBy w' (some mw) := by
  have c1 : w.cell? ⟨pb, 0, none⟩ = some (.map (some mw)) := by simp [World.cell?, h.box]
  have hpbm : pb ≠ mw := fun e => by
    obtain ⟨es, clock, h1, _⟩ := h.wait
    rw [← e, h.box] at h1; cases h1
  have hpb : pb < w.heap.size := (Array.getElem?_eq_some_iff.1 h.box).1
  have hnd := h.nodup
  have H := Lib.hid h
  have HI := Lib.hid hI
  have HN := Lib.hid hnd
  clear h hI hnd
  go_enter Try.func13, Try.ntmps13
  go_wp2_with (first
    | (at_range; refine wpList_rangeL _ rfl _ 57 rfl 61 3 Try.underlying57 mw _ rfl H.out.wait ?_; intro w0 hrg0 hg0 hs0))
  go_frame
  go_loopw [2] (fun _ wr => ∃ (done left : List Dv), W.Perm (done ++ left) ∧ iterOn Try.prog 61 wr w.heap.size mw ((done.map older ++ left).map pr) (left.map pr) ∧ w.grownBy wr (some mw)) (fun _ wr => wr.rangeLeft mw w.heap.size)
  case atStart => exact ⟨[], W, by simp, hrg0, World.grownBy.but hg0 _⟩
  case round =>
    obtain ⟨done, left, hp, hrg, hgw⟩ := hrel
    have hbox : wr.heap[pb]? = some (.cells #[.map (some mw), .map (some mc)] 59 (0, 0)) := (hgw.block pb hpb (fun e => hpbm (by cases e; rfl))).trans H.out.box
    obtain ⟨L, hL⟩ : ∃ L, L = (done.map older ++ left).map pr := ⟨_, rfl⟩
    rw [← hL] at hrg
    have HL0 := Lib.hid hL
    clear hL
    have HP := Lib.hid hp
    have HG := Lib.hid hgw
    have HR := Lib.hid hrg
    have HB := Lib.hid hbox
    clear hp hgw hrg hbox hs0 hg0 hrg0
    go_wp2_with (first
      | (at_next; refine wpList_nextL _ rfl _ rfl 61 (fun d : Dv => kv d.key) wval w.heap.size mw _ left rfl HR.out ?_ ?_))
    · intro hl0
      have HL := Lib.hid hl0
      clear hl0
      go_wp2
      go_end0
      have hl := HL.out
      subst hl
      have h1 := HR.out.hasMap
      rw [HL0.out] at h1
      have h2 := HP.out
      simp only [List.append_nil] at h1 h2
      exact ⟨rfl, H.out.waitTurned HG.out (h1.perm ((h2.symm.map older).map pr)), HG.out⟩
    · intro x left' w2 hperm hit hg2 hs2 hen
      have hxW : x ∈ W := HP.out.mem_iff.2 (List.mem_append.2 (.inr (hperm.mem_iff.2 (by simp))))
      obtain ⟨kl, hkey⟩ := pkKeyOf x.key (HI.out x hxW).1 (HI.out x hxW).2
      have hr2 : w2.heap[pb]? = some (.cells #[.map (some mw), .map (some mc)] 59 (0, 0)) := (hg2.block pb (Array.getElem?_eq_some_iff.1 HB.out).1 (fun e => by cases e; omega)).trans HB.out
      have hmem : pr x ∈ L := HL0.out ▸ List.mem_map.2 ⟨x, List.mem_append.2 (.inr (hperm.mem_iff.2 (by simp))), rfl⟩
      have hm3 : hasMap Try.prog 61 (w2.alloc (.cells #[.int .i64 x.key.1, .int .i64 x.key.2] 61)) mw L := hit.hasMap.of_block (Below.heap_alloc _ _ _ hit.hasMap.lt)
      have hit3 : iterOn Try.prog 61 (w2.alloc (.cells #[.int .i64 x.key.1, .int .i64 x.key.2] 61)) w.heap.size mw L (left'.map pr) := hit.of_block (Below.heap_alloc _ _ _ hit.hasMap.lt) (Below.heap_alloc _ _ _ hit.lt)
      have hl := hm3.look_in (v := wval x) pkLaw Try.underlying57 (zeroInt _) hkey hmem
      obtain ⟨born, hme, hes⟩ := entry_ops hm3 pkLaw Try.underlying57 hkey hmem
      obtain ⟨w4, hes4, hg4, hs4, hst4, hit4⟩ := hes 1 (.int .i64 (IntKind.i64.wrap (x.age + 1)))
      have hme1 := hme 1
      have hl1 : (Instr.lookup 57 (.map (some mw)) (kv x.key) false).run Try.prog ((w2.alloc (.cells #[.int .i64 x.key.1, .int .i64 x.key.2] 61)).drewN 1) = .ok (wval x) ((w2.alloc (.cells #[.int .i64 x.key.1, .int .i64 x.key.2] 61)).drewN 1) := by
        have h1 : hasMap Try.prog 61 ((w2.alloc (.cells #[.int .i64 x.key.1, .int .i64 x.key.2] 61)).drewN 1) mw L := hm3.of_block rfl
        exact h1.look_in (v := wval x) pkLaw Try.underlying57 (zeroInt _) hkey hmem
      have cp : ∀ o, (w2.alloc o).cell? ⟨pb, 0, none⟩ = some (.map (some mw)) := fun o => (World.cell?_of_block (Below.heap_alloc w2 o pb (Array.getElem?_eq_some_iff.1 hr2).1)).trans (by simp [World.cell?, hr2])
      have e1 : ∀ W0 : World, W0.drewN 1 = W0.drew := fun _ => rfl
      rw [e1] at hme1 hl1 hes4
      unfold kv wval at hme1 hl1
      unfold kv wval at hen
      unfold kv wval
      have G1 := Lib.hid hperm
      have G2 := Lib.hid hit3
      have G3 := Lib.hid hg2
      have G4 := Lib.hid hg4
      have G5 := Lib.hid hst4
      have G6 := Lib.hid hit4
      have G7 := Lib.hid hs2
      have G8 := Lib.hid hmem
      clear hperm hit3 hg2 hg4 hst4 hit4 hs2 hs4 hm3 hit hl hme hes hxW hkey hr2 hmem e1
      go_wp2
      refine wp_region_tail 9 (by kernel_rfl) (by kernel_rfl) ?_
      simp only [List.take_succ_cons, List.take_zero, List.drop_succ_cons, List.drop_zero]
      repeat still_step
      refine wpStill_nil ?_
      go_wp2
      have hLp : L.Perm (pr x :: (done.map older ++ left').map pr) := by
        rw [HL0.out]
        have h1 : (done.map older ++ left).Perm (x :: (done.map older ++ left')) := (List.Perm.append_left _ G1.out).trans List.perm_middle
        exact h1.map pr
      have hnl : ∀ u, (kv x.key, u) ∉ left'.map fun d => (kv d.key, wval d) := fun u hu => by
        have h1 := (hLp.map (·.1)).nodup_iff.1 G2.out.hasMap.nodup
        simp only [List.map_cons, List.nodup_cons] at h1
        refine h1.1 ?_
        obtain ⟨d, hd, he⟩ := List.mem_map.1 hu
        exact List.mem_map.2 ⟨pr d, List.mem_map.2 ⟨d, List.mem_append.2 (.inr hd), rfl⟩, (Prod.mk.inj he).1⟩
      have hit5 : iterOn Try.prog 61 w4 w.heap.size mw (((done ++ [x]).map older ++ left').map pr) (left'.map pr) := by
        refine (G6.out _ _ G2.out hnl _ (.inl ⟨_, hLp⟩)).permL ?_
        have h1 : ((done ++ [x]).map older ++ left').Perm (older x :: (done.map older ++ left')) := by
          rw [List.map_append, List.append_assoc]
          exact List.perm_middle
        exact (h1.map pr).symm
      have hgf : w.grownBy w4 (some mw) := by
        have g1 := World.grownBy.andThen HG.out G3.out (fun j e => by cases e; exact .inl (Nat.le_refl _))
        have g2 := World.grownBy.andThen g1 (World.grownBy_alloc w2 (.cells #[.int .i64 x.key.1, .int .i64 x.key.2] 61) none) (fun j e => by cases e)
        exact World.grownBy.andThen g2 G4.out (fun j e => by cases e; exact .inr rfl)
      go_roundw
      case rel => exact ⟨done ++ [x], left', by rw [List.append_assoc]; exact HP.out.trans (List.Perm.append_left _ G1.out), hit5, hgf⟩
      case measure => rw [hit5.left_eq, HR.out.left_eq]; have := G1.out.length_eq; simp at this ⊢; omega
end Go.Proofs.Ytamnffcafbfojaa
