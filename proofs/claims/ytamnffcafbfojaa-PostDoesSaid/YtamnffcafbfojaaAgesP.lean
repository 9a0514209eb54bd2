/-
  POST: how old what waits is: lists and numbers alone.
-/
import Derived.Test.YtamnffcafbfojaaWaitsP
namespace Go.Proofs.Ytamnffcafbfojaa
open Go Go.RowKit

def agedN (W : List Dv) : Nat → List Dv
  | 0 => W
  | t + 1 => (agedN W t).map older

theorem keyIn_older (W : List Dv) (x : Int × Int) : keyIn (W.map older) x ↔ keyIn W x := by
  unfold keyIn
  constructor
  · rintro ⟨d, hd, rfl⟩
    obtain ⟨e, he, rfl⟩ := List.mem_map.1 hd
    exact ⟨e, he, rfl⟩
  · rintro ⟨d, hd, rfl⟩
    exact ⟨older d, List.mem_map.2 ⟨d, hd, rfl⟩, rfl⟩

theorem keyIn_agedN (W : List Dv) (x : Int × Int) : ∀ t, keyIn (agedN W t) x ↔ keyIn W x
  | 0 => Iff.rfl
  | t + 1 => (keyIn_older _ x).trans (keyIn_agedN W x t)

theorem age_agedN {W : List Dv} (h : Zero W) : ∀ t : Nat, t ≤ 1000 → ∀ d ∈ agedN W t, d.age = t
  | 0, _, d, hd => h d hd
  | t + 1, ht, d, hd => by
    obtain ⟨e, he, rfl⟩ := List.mem_map.1 hd
    have := age_agedN h t (by omega) e he
    show IntKind.i64.wrap (e.age + 1) = _
    rw [this]
    exact IntWalk.i64_in _ (by omega)

theorem length_agedN (W : List Dv) : ∀ t, (agedN W t).length = W.length
  | 0 => rfl
  | t + 1 => by rw [agedN, List.length_map, length_agedN W t]

theorem mem_sentN (W : List Dv) (s m : Int) : ∀ (n : Nat) (d : Dv), d ∈ sentN W s m n → (d ∈ W ∧ ∀ k : Nat, k < n → bit m k = true → d.key ≠ ((k : Int), s)) ∨ (d.age = 0 ∧ d.seq = s)
  | 0, d, hd => .inl ⟨hd, fun k hk => by omega⟩
  | n + 1, d, hd => by
    unfold sentN at hd
    split at hd
    · rename_i hb
      rcases List.mem_cons.1 hd with rfl | hd
      · exact .inr ⟨rfl, rfl⟩
      · obtain ⟨h1, h2⟩ := List.mem_filter.1 hd
        rcases mem_sentN W s m n d h1 with ⟨h3, h4⟩ | h3
        · refine .inl ⟨h3, fun k hk hbk => ?_⟩
          by_cases e : k = n
          · subst e; simpa using h2
          · exact h4 k (by omega) hbk
        · exact .inr h3
    · rename_i hb
      rcases mem_sentN W s m n d hd with ⟨h3, h4⟩ | h3
      · refine .inl ⟨h3, fun k hk hbk => ?_⟩
        by_cases e : k = n
        · subst e; exact absurd hbk hb
        · exact h4 k (by omega) hbk
      · exact .inr h3

def sentAgain (W : List Dv) (zs : List Int) (again : Int) : List Dv :=
  if 1 ≤ again ∧ again ≤ zs.length then sentN W again (zs.getD (again - 1).toNat 0) 5 else W

theorem keyIn_again (zs : List Int) (t : Nat) (again : Int) (x : Int × Int) : keyIn (sentAgain (agedN (sentL zs zs.length) t) zs again) x ↔ keyIn (sentL zs zs.length) x := by
  unfold sentAgain
  split
  · rename_i h
    rw [keyIn_sentN, keyIn_agedN]
    constructor
    · rintro (⟨k, h1, h2, h3⟩ | h1)
      · exact (keyIn_sentL zs x _).2 ⟨(again - 1).toNat, k, by omega, h1, by rw [← bit_odd]; exact h2, by rw [h3, show (((again - 1).toNat : Nat) : Int) + 1 = again by omega]⟩
      · exact h1
    · exact .inr
  · exact keyIn_agedN _ _ _

theorem age_again (zs : List Int) (t : Nat) (ht : t ≤ 1000) (again : Int) : ∀ d ∈ sentAgain (agedN (sentL zs zs.length) t) zs again, d.age = if d.seq = again then 0 else (t : Int) := by
  intro d hd
  have hin : d ∈ agedN (sentL zs zs.length) t → ∃ i k : Nat, i < zs.length ∧ k < 5 ∧ odd (zs.getD i 0) k = true ∧ d.key = ((k : Int), (i : Int) + 1) := fun h =>
    (keyIn_sentL zs d.key _).1 ((keyIn_agedN _ _ t).1 ⟨d, h, rfl⟩)
  unfold sentAgain at hd
  split at hd
  · rename_i h
    rcases mem_sentN _ _ _ _ _ hd with ⟨h1, h2⟩ | ⟨h1, h2⟩
    · have ha := age_agedN (zero_sentL zs _) t ht d h1
      obtain ⟨i, k, e1, e2, e3, e4⟩ := hin h1
      have hs : d.seq = (i : Int) + 1 := congrArg Prod.snd e4
      rw [if_neg (fun e => ?_), ha]
      have hi : i = (again - 1).toNat := by omega
      refine h2 k e2 (by rw [bit_odd, ← hi]; exact e3) ?_
      rw [e4, ← hs, e]
    · rw [h1, if_pos h2]
  · rename_i h
    have ha := age_agedN (zero_sentL zs _) t ht d hd
    obtain ⟨i, k, e1, e2, e3, e4⟩ := hin hd
    have hs : d.seq = (i : Int) + 1 := congrArg Prod.snd e4
    rw [if_neg (fun e => h (by omega)), ha]

/-- the keys, in their order -/
def keysT (zs : List Int) : List (Int × Int) := preE zs [] 0 zs.length 0

theorem perm_of_keyIn {W : List Dv} {zs : List Int} (hn : (W.map Dv.key).Nodup) (h : ∀ x, keyIn W x ↔ keyIn (sentL zs zs.length) x) : (W.map Dv.key).Perm (keysT zs) := by
  refine (List.perm_ext_iff_of_nodup hn (nodup_of_kbef (preE_sorted _ _ _ _))).2 fun x => ?_
  have h0 : x ∈ W.map Dv.key ↔ keyIn W x := by simp [keyIn]
  rw [h0, h, keyIn_sentL, mem_preE]
  simp [waitsB]

theorem sorted_of_keyIn {W : List Dv} {zs : List Int} {xs : List (Int × Int)} (hx : xs.Perm (W.map Dv.key)) (hn : (W.map Dv.key).Nodup) (h : ∀ x, keyIn W x ↔ keyIn (sentL zs zs.length) x) : ksort xs = keysT zs :=
  ksort_of xs _ (hx.trans (perm_of_keyIn hn h)) (preE_sorted _ _ _ _)

theorem keys_small {zs : List Int} {x : Int × Int} (h : keyIn (sentL zs zs.length) x) (hz : zs.length ≤ 40) : I64 x.1 ∧ I64 x.2 := by
  obtain ⟨i, k, e1, e2, e3, rfl⟩ := (keyIn_sentL zs x _).1 h
  unfold I64
  simp only
  omega

theorem getW_age {W : List Dv} {f : Dv → Int} {g : Int × Int → Int} (hn : (W.map Dv.key).Nodup) (hf : ∀ d ∈ W, d.age = f d) (hg : ∀ d, f d = g d.key) {x : Int × Int} (hx : x ∈ W.map Dv.key) : getW W x = g x := by
  obtain ⟨d, hd, rfl⟩ := List.mem_map.1 hx
  rw [getW_of hn hd, hf d hd, hg]
end Go.Proofs.Ytamnffcafbfojaa
