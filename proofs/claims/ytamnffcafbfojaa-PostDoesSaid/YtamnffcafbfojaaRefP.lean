/-
  POST: the document's lists, and ours: lists and numbers alone.
-/
import Derived.Test.YtamnffcafbfojaaWaitsP
import Derived.Test.YtamnffcafbfojaaAgesP
namespace Go.Proofs.Ytamnffcafbfojaa
open Go Go.RowKit

instance : Inhabited Dv := ⟨⟨0, 0, 0⟩⟩

def dbef (a b : Dv) : Prop := a.seq < b.seq ∨ (a.seq = b.seq ∧ a.to < b.to)
def Sorted (L : List Dv) : Prop := L.Pairwise dbef
def sbef (s t : Int) (d : Dv) : Bool := decide (d.seq < s) || (decide (d.seq = s) && decide (d.to < t))

theorem sbef_yes {s t : Int} {d : Dv} : sbef s t d = true ↔ d.seq < s ∨ (d.seq = s ∧ d.to < t) := by simp [sbef]

def ins (s t : Int) : List Dv → List Dv
  | [] => [⟨s, t, 0⟩]
  | a :: L => if sbef s t a then a :: ins s t L else ⟨s, t, 0⟩ :: a :: L

theorem perm_ins (s t : Int) : ∀ L, (ins s t L).Perm (⟨s, t, 0⟩ :: L)
  | [] => List.Perm.refl _
  | a :: L => by
    unfold ins
    split
    · exact ((perm_ins s t L).cons a).trans (List.Perm.swap _ _ _)
    · exact List.Perm.refl _

theorem dbef_trans {a b c : Dv} (h : dbef a b) (k : dbef b c) : dbef a c := by unfold dbef at *; omega

theorem sorted_ins {s t : Int} : ∀ {L : List Dv}, Sorted L → (∀ d ∈ L, d.key ≠ (t, s)) → Sorted (ins s t L)
  | [], _, _ => by simp [ins, Sorted]
  | a :: L, h, hk => by
    unfold Sorted at h
    rw [List.pairwise_cons] at h
    have ha := hk a (by simp)
    unfold ins
    split
    · rename_i hs
      rw [sbef_yes] at hs
      unfold Sorted
      rw [List.pairwise_cons]
      refine ⟨fun b hb => ?_, sorted_ins h.2 (fun d hd => hk d (by simp [hd]))⟩
      rcases List.mem_cons.1 ((perm_ins s t L).mem_iff.1 hb) with rfl | hb
      · exact hs
      · exact h.1 b hb
    · rename_i hs
      rw [sbef_yes] at hs
      have hd : dbef ⟨s, t, 0⟩ a := by
        unfold dbef
        simp only
        by_cases e : a.seq = s
        · have : a.to ≠ t := fun e2 => ha (Prod.ext e2 e)
          omega
        · omega
      unfold Sorted
      rw [List.pairwise_cons, List.pairwise_cons]
      refine ⟨fun b hb => ?_, h⟩
      rcases List.mem_cons.1 hb with rfl | hb
      · exact hd
      · exact dbef_trans hd (h.1 b hb)

theorem ins_at {s t : Int} : ∀ {L : List Dv} {k : Nat}, k ≤ L.length → (∀ j, j < k → sbef s t L[j]! = true) → (k < L.length → sbef s t L[k]! = false) → ins s t L = L.take k ++ ⟨s, t, 0⟩ :: L.drop k
  | [], 0, _, _, _ => rfl
  | a :: L, 0, _, _, h => by
    have := h (by simp)
    simp at this
    simp [ins, this]
  | a :: L, k + 1, hk, h1, h2 => by
    have h0 := h1 0 (by omega)
    simp at h0
    have ih := ins_at (L := L) (k := k) (by simpa using hk) (fun j hj => by have := h1 (j + 1) (by omega); simpa using this) (fun hl => by have := h2 (by simpa using hl); simpa using this)
    simp [ins, h0, ih]

theorem sorted_keys {L : List Dv} (h : Sorted L) : (L.map Dv.key).Nodup := by
  rw [List.nodup_iff_pairwise_ne, List.pairwise_map]
  refine h.imp fun {a b} hab e => ?_
  have h1 := (Prod.mk.inj e).1
  have h2 := (Prod.mk.inj e).2
  unfold dbef at hab
  omega

theorem sorted_acked {L : List Dv} (h : Sorted L) (k : Int × Int) : Sorted (acked L k) := List.Pairwise.filter _ h

def rsentN (L : List Dv) (s m : Int) : Nat → List Dv
  | 0 => L
  | n + 1 => if odd m n then ins s n (acked (rsentN L s m n) ((n : Int), s)) else rsentN L s m n

theorem sorted_rsentN {L : List Dv} (h : Sorted L) (s m : Int) : ∀ n, Sorted (rsentN L s m n)
  | 0 => h
  | n + 1 => by
    unfold rsentN
    split
    · refine sorted_ins (sorted_acked (sorted_rsentN h s m n) _) fun d hd => ?_
      have := (List.mem_filter.1 hd).2
      simpa using this
    · exact sorted_rsentN h s m n

theorem length_acked (L : List Dv) (k : Int × Int) : (acked L k).length ≤ L.length := List.length_filter_le _ _

theorem length_rsentN (L : List Dv) (s m : Int) : ∀ n, (rsentN L s m n).length ≤ L.length + n
  | 0 => by simp [rsentN]
  | n + 1 => by
    have ih := length_rsentN L s m n
    unfold rsentN
    split
    · rw [(perm_ins _ _ _).length_eq]
      have := length_acked (rsentN L s m n) ((n : Int), s)
      simp only [List.length_cons]
      omega
    · omega

theorem perm_sentN {L W : List Dv} (h : L.Perm W) (s m : Int) : ∀ n, (rsentN L s m n).Perm (sentN W s m n)
  | 0 => h
  | n + 1 => by
    unfold rsentN sentN
    rw [bit_odd]
    split
    · exact (perm_ins _ _ _).trans (((perm_sentN h s m n).filter _).cons _)
    · exact perm_sentN h s m n

theorem perm_acked {L W : List Dv} (h : L.Perm W) (k : Int × Int) : (acked L k).Perm (acked W k) := h.filter _

theorem hasW_perm {L W : List Dv} (h : L.Perm W) (k : Int × Int) : hasW L k = hasW W k := by
  unfold hasW
  rw [Bool.eq_iff_iff, List.any_eq_true, List.any_eq_true]
  exact ⟨fun ⟨d, hd, e⟩ => ⟨d, h.mem_iff.1 hd, e⟩, fun ⟨d, hd, e⟩ => ⟨d, h.mem_iff.2 hd, e⟩⟩

theorem sorted_older {L : List Dv} (h : Sorted L) : Sorted (L.map older) := by
  unfold Sorted
  rw [List.pairwise_map]
  exact h.imp fun {a b} hab => hab

/-- what Dues says of ours is what the document's list says -/
theorem ksort_sorted {L W : List Dv} {xs : List (Int × Int)} (hs : Sorted L) (hp : L.Perm W) (hx : xs.Perm (W.map Dv.key)) : ksort xs = L.map Dv.key := by
  refine ksort_of xs _ (hx.trans (hp.map _).symm) ?_
  rw [List.pairwise_map]
  refine hs.imp fun {a b} hab => ?_
  unfold kbef
  exact hab
end Go.Proofs.Ytamnffcafbfojaa
