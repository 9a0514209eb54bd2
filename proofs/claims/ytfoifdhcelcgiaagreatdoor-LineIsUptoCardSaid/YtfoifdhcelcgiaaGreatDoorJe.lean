/-
  The set of operations as a law, and as it lies.
-/
import Derived.Test.YtfoifdhcelcgiaaGreatDoorJd
import Derived.Test.YtfoifdhcelcgiaaGreatDoorJc
import Derived.Sort.Statements
import Derived.Shelf.SlSortCmp.Insertion
import Derived.Test.YtfoifdhcelcgiaaGreatDoorJa
import Derived.Deep.Draws
import Derived.Test.YtfoifdhcelcgiaaGreatDoorJb
/- The set of operations as a law: what is there and what waits, in the order in which it came; what comes, and what that answers. -/
namespace Go.Proofs.YtfoifdhcelcgiaaGreatDoor
open Go Go.Sort

abbrev Nm := List UInt8
abbrev NOp := List UInt8 × OpV

structure DS where
  ops : List NOp
  wait : List NOp

def namesOf (l : List NOp) : List Nm := l.map (·.1)
def hasN (l : List NOp) (n : Nm) : Bool := l.any fun e => decide (e.1 = n)
def opAt (l : List NOp) (n : Nm) : Option OpV := (l.find? fun e => decide (e.1 = n)).map (·.2)
def depAt (l : List NOp) (n : Nm) : Int := ((opAt l n).map (·.depth)).getD 0
def wholeB (l : List NOp) (o : OpV) : Bool := o.preds.all (hasN l)
def deepL (l : List NOp) (ps : List Nm) : Int := ps.foldl (fun n p => max n (depAt l p)) 0
def depthOf (l : List NOp) (o : OpV) : Int := IntKind.i64.wrap (deepL l o.preds + 1)

/-- is it the first, or does it stand before that one? -/
def lessI (wait : List NOp) (b : Option Nat) (e : NOp) : Bool := match b with | none => true | some j => decide (cmpB e.1 ((wait.getD j e).1) < 0)
/-- the place of the least one that waits and lacks nothing, among the first k -/
def bestI (l wait : List NOp) : Nat → Option Nat
  | 0 => none
  | k + 1 => match wait[k]? with
    | none => bestI l wait k
    | some e => if wholeB l e.2 && lessI wait (bestI l wait k) e then some k else bestI l wait k

def putD (s : DS) (out : List Nm) (e : NOp) : DS × List Nm :=
  if e.2.depth = depthOf s.ops e.2 then (⟨s.ops ++ [e], s.wait⟩, out ++ [e.1]) else (s, out)

def drain : Nat → DS → List Nm → DS × List Nm
  | 0, s, out => (s, out)
  | f + 1, s, out => match bestI s.ops s.wait s.wait.length with
    | none => (s, out)
    | some i => match s.wait[i]? with
      | none => (s, out)
      | some e => drain f (putD ⟨s.ops, s.wait.eraseIdx i⟩ out e).1 (putD ⟨s.ops, s.wait.eraseIdx i⟩ out e).2

/-- what comes: the set behind it, the names that are new there, the error's number -/
def takeD (s : DS) (o : OpV) : DS × List Nm × Int :=
  if o.Good then
    if hasN s.ops (nameB o) || hasN s.wait (nameB o) then (s, [], 9)
    else if wholeB s.ops o = false then (⟨s.ops, s.wait ++ [(nameB o, o)]⟩, [], 0)
    else if o.depth = depthOf s.ops o then ((drain s.wait.length ⟨s.ops ++ [(nameB o, o)], s.wait⟩ [nameB o]).1, (drain s.wait.length ⟨s.ops ++ [(nameB o, o)], s.wait⟩ [nameB o]).2, 0)
    else (s, [], 10)
  else (s, [], 1)

theorem hasN_iff {l : List NOp} {n : Nm} : hasN l n = true ↔ n ∈ namesOf l := by
  simp only [hasN, namesOf, List.any_eq_true, decide_eq_true_eq, List.mem_map]
theorem hasN_false {l : List NOp} {n : Nm} : hasN l n = false ↔ n ∉ namesOf l := by
  rw [← hasN_iff, Bool.not_eq_true]
theorem hasN_append {l r : List NOp} {n : Nm} : hasN (l ++ r) n = (hasN l n || hasN r n) := by simp [hasN]
theorem opAt_append {l r : List NOp} {n : Nm} (h : hasN l n = true) : opAt (l ++ r) n = opAt l n := by
  unfold opAt
  rw [List.find?_append]
  obtain ⟨e, he, hn⟩ := List.any_eq_true.1 h
  cases hf : l.find? (fun e => decide (e.1 = n)) with
  | none => exact absurd hn (by simpa using List.find?_eq_none.1 hf e he)
  | some x => rfl
theorem depAt_append {l r : List NOp} {n : Nm} (h : hasN l n = true) : depAt (l ++ r) n = depAt l n := by
  unfold depAt
  rw [opAt_append h]
theorem wholeB_append {l r : List NOp} {o : OpV} (h : wholeB l o = true) : wholeB (l ++ r) o = true := by
  simp only [wholeB, List.all_eq_true] at h ⊢
  intro p hp
  rw [hasN_append, h p hp]
  rfl
theorem deepL_append {l r : List NOp} : ∀ (ps : List Nm) (a : Int), (∀ p ∈ ps, hasN l p = true) → ps.foldl (fun n p => max n (depAt (l ++ r) p)) a = ps.foldl (fun n p => max n (depAt l p)) a
  | [], _, _ => rfl
  | p :: ps, a, h => by
    simp only [List.foldl_cons]
    rw [depAt_append (h p (by simp)), deepL_append ps _ (fun q hq => h q (by simp [hq]))]
theorem depthOf_append {l r : List NOp} {o : OpV} (h : wholeB l o = true) : depthOf (l ++ r) o = depthOf l o := by
  unfold depthOf deepL
  rw [deepL_append _ _ (by simpa [wholeB] using h)]
theorem opAt_some {l : List NOp} {n : Nm} {o : OpV} (h : opAt l n = some o) : (n, o) ∈ l := by
  unfold opAt at h
  obtain ⟨e, he, rfl⟩ := Option.map_eq_some_iff.1 h
  have h1 := List.find?_some he
  have h2 := List.mem_of_find?_eq_some he
  simp only [decide_eq_true_eq] at h1
  subst h1
  exact h2
theorem opAt_mem {l : List NOp} {n : Nm} {o : OpV} (hd : (namesOf l).Nodup) (h : (n, o) ∈ l) : opAt l n = some o := by
  have h1 : hasN l n = true := hasN_iff.2 (List.mem_map.2 ⟨_, h, rfl⟩)
  cases ho : opAt l n with
  | none =>
    unfold opAt at ho
    rw [Option.map_eq_none_iff] at ho
    exact absurd (List.find?_eq_none.1 ho _ h) (by simp)
  | some o' =>
    have h2 := opAt_some ho
    have : ∀ (l : List NOp), (namesOf l).Nodup → (n, o) ∈ l → (n, o') ∈ l → o' = o := by
      intro l
      induction l with
      | nil => intro _ h; simp at h
      | cons a r ih =>
        intro hd h h'
        simp only [namesOf, List.map_cons, List.nodup_cons] at hd
        rcases List.mem_cons.1 h with h | h <;> rcases List.mem_cons.1 h' with h' | h'
        · rw [← h] at h'; exact (Prod.mk.inj h').2
        · exact absurd (List.mem_map.2 ⟨_, h', by rw [← h]⟩) hd.1
        · exact absurd (List.mem_map.2 ⟨_, h, by rw [← h']⟩) hd.1
        · exact ih hd.2 h h'
    rw [this l hd h h2]
theorem opAt_none {l : List NOp} {n : Nm} (h : hasN l n = false) : opAt l n = none := by
  cases ho : opAt l n with
  | none => rfl
  | some o => exact absurd (hasN_iff.2 (List.mem_map.2 ⟨_, opAt_some ho, rfl⟩)) (by simp [h])

/-! ### the order of names -/
theorem cmpB_swap : ∀ (x y : Nm), cmpB y x = - cmpB x y
  | [], [] => rfl
  | [], _ :: _ => rfl
  | _ :: _, [] => rfl
  | a :: x, b :: y => by
    have h := cmpB_swap x y
    simp only [cmpB, Lib.compareBytes] at h ⊢
    rw [h]
    rcases Nat.lt_trichotomy a.toNat b.toNat with h1 | h1 | h1
    · have : a < b := h1
      have h2 : ¬ b < a := fun h3 => Nat.lt_asymm h1 h3
      simp [this, h2]
    · have := UInt8.toNat_inj.1 h1
      subst this
      simp
    · have : b < a := h1
      have h2 : ¬ a < b := fun h3 => Nat.lt_asymm h1 h3
      simp [this, h2]
theorem cmpB_zero : ∀ (x y : Nm), cmpB x y = 0 → x = y
  | [], [], _ => rfl
  | [], _ :: _, h => by simp [cmpB, Lib.compareBytes] at h
  | _ :: _, [], h => by simp [cmpB, Lib.compareBytes] at h
  | a :: x, b :: y, h => by
    simp only [cmpB, Lib.compareBytes] at h
    split at h
    · simp at h
    · split at h
      · simp at h
      · rename_i h1 h2
        have : a = b := UInt8.toNat_inj.1 (by
          have h1' : ¬ a.toNat < b.toNat := h1
          have h2' : ¬ b.toNat < a.toNat := h2
          omega)
        rw [this, cmpB_zero x y h]
theorem cmpB_self (x : Nm) : cmpB x x = 0 := by
  have := cmpB_swap x x
  omega
theorem cmpB_trans : ∀ (x y z : Nm), cmpB x y < 0 → cmpB y z < 0 → cmpB x z < 0
  | [], [], _, h, _ => by simp [cmpB, Lib.compareBytes] at h
  | [], _ :: _, [], _, h => by simp [cmpB, Lib.compareBytes] at h
  | [], _ :: _, _ :: _, _, _ => by simp [cmpB, Lib.compareBytes]
  | _ :: _, [], _, h, _ => by simp [cmpB, Lib.compareBytes] at h
  | _ :: _, _ :: _, [], _, h => by simp [cmpB, Lib.compareBytes] at h
  | a :: x, b :: y, c :: z, h1, h2 => by
    have ih := cmpB_trans x y z
    simp only [cmpB, Lib.compareBytes] at h1 h2 ih ⊢
    have key : ∀ a b : UInt8, a < b ↔ a.toNat < b.toNat := fun a b => Iff.rfl
    simp only [gt_iff_lt, key] at h1 h2 ⊢
    split at h1
    · split at h2
      · rw [if_pos (by omega)]; omega
      · split at h2
        · simp at h2
        · rw [if_pos (by omega)]; omega
    · split at h1
      · simp at h1
      · split at h2
        · rw [if_pos (by omega)]; omega
        · split at h2
          · simp at h2
          · rw [if_neg (by omega), if_neg (by omega)]
            exact ih h1 h2

def nlt (x y : Nm) : Bool := ltOf cmpB x y
theorem nlt_iff (x y : Nm) : nlt x y = true ↔ cmpB x y < 0 := by simp [nlt, ltOf]
theorem cmpB_swo : SWO (ltOf cmpB) where
  irrefl x := by simp [ltOf, cmpB_self]
  trans x y z h1 h2 := by
    simp only [ltOf, decide_eq_true_eq] at *
    exact cmpB_trans x y z h1 h2
  ntrans x y z h1 h2 := by
    simp only [ltOf, decide_eq_false_iff_not] at *
    intro h3
    rcases cmpB_three x y with h | h | h
    · omega
    · have := cmpB_zero x y h
      subst this
      exact h2 h3
    · have h4 := cmpB_swap x y
      exact h2 (cmpB_trans y x z (by omega) h3)
theorem cmpB_total (x y : Nm) (h1 : ltOf cmpB x y = false) (h2 : ltOf cmpB y x = false) : x = y := by
  simp only [ltOf, decide_eq_false_iff_not] at h1 h2
  have := cmpB_swap x y
  exact cmpB_zero x y (by omega)

/-- names in their order -/
def nsort (l : List Nm) : List Nm := l.mergeSort fun x y => !(ltOf cmpB y x)
theorem nsort_perm (l : List Nm) : (nsort l).Perm l := List.mergeSort_perm _ _
theorem nsort_mem {l : List Nm} {n : Nm} : n ∈ nsort l ↔ n ∈ l := (nsort_perm l).mem_iff
theorem nsort_pairwise (l : List Nm) : (nsort l).Pairwise fun x y => ¬ cmpB y x < 0 := by
  have := List.pairwise_mergeSort (le := fun x y => !(ltOf cmpB y x))
    (fun a b c h1 h2 => by
      simp only [Bool.not_eq_true', ltOf, decide_eq_false_iff_not] at h1 h2 ⊢
      intro h3
      rcases cmpB_three b a with h | h | h
      · omega
      · have := cmpB_zero b a h
        subst this
        exact h2 h3
      · have h4 := cmpB_swap b a
        exact h2 (cmpB_trans c a b h3 (by omega)))
    (fun a b => by
      have h4 := cmpB_swap b a
      simp only [ltOf, Bool.or_eq_true, Bool.not_eq_true', decide_eq_false_iff_not]
      omega) l
  exact this.imp (by simp [ltOf])
theorem nsort_nodup {l : List Nm} (h : l.Nodup) : (nsort l).Nodup := (nsort_perm l).nodup_iff.2 h
theorem sorted_unique : ∀ {l r : List Nm}, l.Perm r → l.Pairwise (fun x y => ¬ cmpB y x < 0) → r.Pairwise (fun x y => ¬ cmpB y x < 0) → l = r
  | [], r, h, _, _ => by simpa using h.symm.eq_nil
  | a :: l, [], h, _, _ => by simpa using h.eq_nil
  | a :: l, b :: r, h, hl, hr => by
    have hab : a = b := by
      rcases List.mem_cons.1 (h.mem_iff.1 (List.mem_cons_self)) with h1 | h1
      · exact h1
      · rcases List.mem_cons.1 (h.mem_iff.2 (List.mem_cons_self)) with h2 | h2
        · exact h2.symm
        · have e1 := (List.pairwise_cons.1 hr).1 a h1
          have e2 := (List.pairwise_cons.1 hl).1 b h2
          have := cmpB_swap a b
          exact cmpB_zero a b (by omega)
    subst hab
    rw [sorted_unique ((List.perm_cons _).1 h) (List.pairwise_cons.1 hl).2 (List.pairwise_cons.1 hr).2]

/-! ### the least one -/
theorem bestI_some {l wait : List NOp} : ∀ {k i : Nat}, bestI l wait k = some i → i < k ∧ ∃ e, wait[i]? = some e ∧ wholeB l e.2 = true
  | 0, _, h => by simp [bestI] at h
  | k + 1, i, h => by
    rw [bestI] at h
    cases hw : wait[k]? with
    | none =>
      rw [hw] at h
      obtain ⟨h1, h2⟩ := bestI_some h
      exact ⟨by omega, h2⟩
    | some e =>
      simp only [hw] at h
      split at h
      · rename_i hc
        cases h
        rw [Bool.and_eq_true] at hc
        exact ⟨by omega, e, hw, hc.1⟩
      · obtain ⟨h1, h2⟩ := bestI_some h
        exact ⟨by omega, h2⟩
theorem bestI_none {l wait : List NOp} : ∀ {k : Nat}, bestI l wait k = none → ∀ j, j < k → ∀ e, wait[j]? = some e → wholeB l e.2 = false
  | 0, _, j, hj, _, _ => by omega
  | k + 1, h, j, hj, e, he => by
    rw [bestI] at h
    cases hw : wait[k]? with
    | none =>
      rw [hw] at h
      rcases Nat.lt_or_eq_of_le (Nat.le_of_lt_succ hj) with h1 | h1
      · exact bestI_none h j h1 e he
      · subst h1
        rw [hw] at he
        cases he
    | some x =>
      simp only [hw] at h
      split at h
      · cases h
      · rename_i hc
        rcases Nat.lt_or_eq_of_le (Nat.le_of_lt_succ hj) with h1 | h1
        · exact bestI_none h j h1 e he
        · subst h1
          rw [hw] at he
          cases he
          rw [h] at hc
          simpa [lessI] using hc
theorem bestI_least {l wait : List NOp} : ∀ {k i : Nat} {e : NOp}, bestI l wait k = some i → wait[i]? = some e → ∀ j, j < k → ∀ x, wait[j]? = some x → wholeB l x.2 = true → ¬ cmpB x.1 e.1 < 0
  | 0, _, _, h, _, _, _, _, _, _ => by simp [bestI] at h
  | k + 1, i, e, h, he, j, hj, x, hx, hwx => by
    rw [bestI] at h
    cases hw : wait[k]? with
    | none =>
      rw [hw] at h
      rcases Nat.lt_or_eq_of_le (Nat.le_of_lt_succ hj) with h1 | h1
      · exact bestI_least h he j h1 x hx hwx
      · subst h1
        rw [hw] at hx
        cases hx
    | some y =>
      simp only [hw] at h
      split at h
      · rename_i hc
        cases h
        rw [hw] at he
        cases he
        rcases Nat.lt_or_eq_of_le (Nat.le_of_lt_succ hj) with h1 | h1
        · cases hb : bestI l wait k with
          | none =>
            have := bestI_none hb j h1 x hx
            rw [this] at hwx
            cases hwx
          | some i0 =>
            obtain ⟨_, e0, he0, _⟩ := bestI_some hb
            have hl := bestI_least hb he0 j h1 x hx hwx
            simp only [hb, lessI, Bool.and_eq_true, decide_eq_true_eq, List.getD_eq_getElem?_getD, he0, Option.getD_some] at hc
            intro h3
            exact hl (cmpB_trans _ _ _ h3 hc.2)
        · subst h1
          rw [hw] at hx
          cases hx
          rw [cmpB_self]
          omega
      · rename_i hc
        rcases Nat.lt_or_eq_of_le (Nat.le_of_lt_succ hj) with h1 | h1
        · exact bestI_least h he j h1 x hx hwx
        · subst h1
          rw [hw] at hx
          cases hx
          simp only [h, lessI, hwx, Bool.true_and, decide_eq_true_eq, List.getD_eq_getElem?_getD, he, Option.getD_some] at hc
          exact hc

/-- e waits, lacks nothing, and none that does so stands before it -/
structure IsBest (s : DS) (e : NOp) : Prop where
  mem : e ∈ s.wait
  whole : wholeB s.ops e.2 = true
  least : ∀ x ∈ s.wait, wholeB s.ops x.2 = true → ¬ cmpB x.1 e.1 < 0
theorem bestI_isBest {s : DS} {i : Nat} (h : bestI s.ops s.wait s.wait.length = some i) : ∃ e, s.wait[i]? = some e ∧ IsBest s e := by
  obtain ⟨h1, e, he, hw⟩ := bestI_some h
  refine ⟨e, he, List.mem_of_getElem? he, hw, fun x hx hwx => ?_⟩
  obtain ⟨j, hj⟩ := List.mem_iff_getElem?.1 hx
  exact bestI_least h he j (List.getElem?_eq_some_iff.1 hj).1 x hj hwx
theorem IsBest.eq {s : DS} {e e' : NOp} (hd : (namesOf s.wait).Nodup) (h : IsBest s e) (h' : IsBest s e') : e = e' := by
  have h1 := h.least e' h'.mem h'.whole
  have h2 := h'.least e h.mem h.whole
  have h3 := cmpB_swap e.1 e'.1
  have h4 := cmpB_zero e.1 e'.1 (by omega)
  obtain ⟨n, o⟩ := e
  obtain ⟨n', o'⟩ := e'
  obtain rfl : n = n' := h4
  have := opAt_mem hd h.mem
  rw [opAt_mem hd h'.mem] at this
  cases this
  rfl

/-! ### what always holds -/
structure DInv (s : DS) : Prop where
  nd : (namesOf (s.ops ++ s.wait)).Nodup
  named : ∀ e ∈ s.ops ++ s.wait, e.1 = nameB e.2
  closed : ∀ e ∈ s.ops, wholeB s.ops e.2 = true ∧ e.2.depth = depthOf s.ops e.2
theorem DInv.nil : DInv ⟨[], []⟩ := ⟨by simp [namesOf], by simp, by simp⟩
theorem DInv.nd1 {s : DS} (h : DInv s) : (namesOf s.ops).Nodup := by
  have := h.nd
  simp only [namesOf, List.map_append] at this ⊢
  exact (List.nodup_append.1 this).1
theorem DInv.nd2 {s : DS} (h : DInv s) : (namesOf s.wait).Nodup := by
  have := h.nd
  simp only [namesOf, List.map_append] at this ⊢
  exact (List.nodup_append.1 this).2.1
theorem DInv.apart {s : DS} (h : DInv s) {n : Nm} (h1 : n ∈ namesOf s.ops) (h2 : n ∈ namesOf s.wait) : False := by
  have := h.nd
  simp only [namesOf, List.map_append] at this h1 h2
  exact (List.nodup_append.1 this).2.2 n h1 n h2 rfl
theorem DInv.push {s : DS} (h : DInv s) {e : NOp} (hn : e.1 = nameB e.2) (h1 : e.1 ∉ namesOf s.ops) (h2 : e.1 ∉ namesOf s.wait) (hw : wholeB s.ops e.2 = true) (hd : e.2.depth = depthOf s.ops e.2) : DInv ⟨s.ops ++ [e], s.wait⟩ := by
  refine ⟨?_, ?_, ?_⟩
  · have hp : (namesOf (s.ops ++ [e] ++ s.wait)).Perm (e.1 :: namesOf (s.ops ++ s.wait)) := by
      simp only [namesOf]
      have : (s.ops ++ [e] ++ s.wait).Perm (e :: (s.ops ++ s.wait)) := by
        rw [List.append_assoc]
        exact List.perm_middle
      exact this.map _
    rw [hp.nodup_iff, List.nodup_cons]
    refine ⟨?_, h.nd⟩
    simp only [namesOf, List.map_append, List.mem_append] at h1 h2 ⊢
    exact fun hh => hh.elim h1 h2
  · intro x hx
    simp only [List.mem_append, List.mem_singleton] at hx
    rcases hx with (hx | rfl) | hx
    · exact h.named x (by simp [hx])
    · exact hn
    · exact h.named x (by simp [hx])
  · intro x hx
    simp only [List.mem_append, List.mem_singleton] at hx
    rcases hx with hx | rfl
    · obtain ⟨c1, c2⟩ := h.closed x hx
      exact ⟨wholeB_append c1, by rw [depthOf_append c1]; exact c2⟩
    · exact ⟨wholeB_append hw, by rw [depthOf_append hw]; exact hd⟩
theorem DInv.waits {s : DS} (h : DInv s) {e : NOp} (hn : e.1 = nameB e.2) (h1 : e.1 ∉ namesOf s.ops) (h2 : e.1 ∉ namesOf s.wait) : DInv ⟨s.ops, s.wait ++ [e]⟩ := by
  refine ⟨?_, ?_, h.closed⟩
  · have hp : (namesOf (s.ops ++ (s.wait ++ [e]))).Perm (e.1 :: namesOf (s.ops ++ s.wait)) := by
      simp only [namesOf]
      have : (s.ops ++ (s.wait ++ [e])).Perm (e :: (s.ops ++ s.wait)) := by
        rw [← List.append_assoc]
        exact List.perm_append_singleton _ _
      exact this.map _
    rw [hp.nodup_iff, List.nodup_cons]
    refine ⟨?_, h.nd⟩
    simp only [namesOf, List.map_append, List.mem_append] at h1 h2 ⊢
    exact fun hh => hh.elim h1 h2
  · intro x hx
    simp only [List.mem_append, List.mem_singleton] at hx
    rcases hx with hx | hx | rfl
    · exact h.named x (by simp [hx])
    · exact h.named x (by simp [hx])
    · exact hn
theorem erase_names {l : List NOp} {i : Nat} {e : NOp} (hi : l[i]? = some e) : l.Perm (e :: l.eraseIdx i) := by
  induction l generalizing i with
  | nil => simp at hi
  | cons a r ih =>
    cases i with
    | zero => simp at hi; subst hi; simp
    | succ i =>
      simp at hi
      simp only [List.eraseIdx_cons_succ]
      exact ((ih hi).cons a).trans (List.Perm.swap _ _ _)
theorem DInv.erase {s : DS} (h : DInv s) {i : Nat} {e : NOp} (hi : s.wait[i]? = some e) : DInv ⟨s.ops, s.wait.eraseIdx i⟩ ∧ e.1 = nameB e.2 ∧ e.1 ∉ namesOf s.ops ∧ e.1 ∉ namesOf (s.wait.eraseIdx i) := by
  have hm := List.mem_of_getElem? hi
  have hp := erase_names hi
  have hnd := h.nd2
  have hpn : (namesOf s.wait).Perm (e.1 :: namesOf (s.wait.eraseIdx i)) := hp.map _
  rw [hpn.nodup_iff, List.nodup_cons] at hnd
  refine ⟨⟨?_, fun x hx => h.named x ?_, h.closed⟩, h.named e (by simp [hm]), fun hh => h.apart hh (List.mem_map.2 ⟨e, hm, rfl⟩), hnd.1⟩
  · have hsub : (s.ops ++ s.wait.eraseIdx i).Sublist (s.ops ++ s.wait) := List.Sublist.append_left (List.eraseIdx_sublist _ _) _
    exact (hsub.map _).nodup h.nd
  · simp only [List.mem_append] at hx ⊢
    exact hx.imp id (fun hh => (List.eraseIdx_sublist _ _).subset hh)
theorem DInv.step {s : DS} (h : DInv s) {i : Nat} {e : NOp} (hi : s.wait[i]? = some e) (hw : wholeB s.ops e.2 = true) (out : List Nm) : DInv (putD ⟨s.ops, s.wait.eraseIdx i⟩ out e).1 := by
  obtain ⟨h1, h2, h3, h4⟩ := h.erase hi
  unfold putD
  split
  · rename_i hd
    exact h1.push h2 h3 h4 hw hd
  · exact h1
theorem DInv.drain : ∀ (f : Nat) {s : DS} (_ : DInv s) (out : List Nm), DInv (drain f s out).1
  | 0, _, h, _ => h
  | f + 1, s, h, out => by
    rw [Proofs.YtfoifdhcelcgiaaGreatDoor.drain]
    cases hb : bestI s.ops s.wait s.wait.length with
    | none => exact h
    | some i =>
      obtain ⟨_, e, he, hw⟩ := bestI_some hb
      simp only [he]
      exact DInv.drain f (h.step he hw out) _
theorem DInv.take {s : DS} (h : DInv s) (o : OpV) : DInv (takeD s o).1 := by
  unfold takeD
  split
  · split
    · exact h
    · rename_i hc
      simp only [Bool.or_eq_true, not_or, Bool.not_eq_true] at hc
      have h1 := hasN_false.1 hc.1
      have h2 := hasN_false.1 hc.2
      split
      · exact h.waits rfl h1 h2
      · rename_i hw
        have hw' : wholeB s.ops o = true := by simpa using hw
        split
        · rename_i hd
          exact DInv.drain _ (h.push (e := (nameB o, o)) rfl h1 h2 hw' hd) _
        · exact h
  · exact h

/-! ### rising; heads; a draft here -/
def insL : List Nm → Nm → List Nm
  | [], n => [n]
  | a :: r, n => if cmpB a n < 0 then a :: insL r n else n :: a :: r
theorem insL_perm : ∀ (l : List Nm) (n : Nm), (insL l n).Perm (n :: l)
  | [], _ => List.Perm.refl _
  | a :: r, n => by
    rw [insL]
    split
    · exact ((insL_perm r n).cons a).trans (List.Perm.swap _ _ _)
    · exact List.Perm.refl _
theorem insL_sorted : ∀ (l : List Nm) (n : Nm), l.Pairwise (fun x y => ¬ cmpB y x < 0) → (insL l n).Pairwise (fun x y => ¬ cmpB y x < 0)
  | [], _, _ => by simp [insL]
  | a :: r, n, h => by
    rw [insL]
    have h1 := List.pairwise_cons.1 h
    split
    · rename_i hc
      refine List.pairwise_cons.2 ⟨fun y hy => ?_, insL_sorted r n h1.2⟩
      rcases List.mem_cons.1 ((insL_perm r n).mem_iff.1 hy) with rfl | hy
      · have := cmpB_swap a y
        omega
      · exact h1.1 y hy
    · rename_i hc
      refine List.pairwise_cons.2 ⟨fun y hy => ?_, h⟩
      rcases List.mem_cons.1 hy with rfl | hy
      · exact hc
      · intro h3
        have h4 := h1.1 y hy
        rcases cmpB_three a n with h5 | h5 | h5
        · omega
        · have := cmpB_zero a n h5
          subst this
          exact h4 h3
        · have h6 := cmpB_swap a n
          exact h4 (cmpB_trans y n a h3 (by omega))
def risingL (l : List Nm) : List Nm := l.foldl insL []
theorem foldl_insL : ∀ (l out : List Nm), out.Pairwise (fun x y => ¬ cmpB y x < 0) → (l.foldl insL out).Perm (out ++ l) ∧ (l.foldl insL out).Pairwise (fun x y => ¬ cmpB y x < 0)
  | [], out, h => ⟨by simp, h⟩
  | a :: l, out, h => by
    obtain ⟨h1, h2⟩ := foldl_insL l (insL out a) (insL_sorted out a h)
    refine ⟨?_, h2⟩
    have : (insL out a ++ l).Perm (out ++ a :: l) := ((insL_perm out a).append_right l).trans (by simpa using (List.perm_middle (l₁ := out) (l₂ := l) (a := a)).symm)
    exact h1.trans this
theorem risingL_eq (l : List Nm) : risingL l = nsort l := by
  obtain ⟨h1, h2⟩ := foldl_insL l [] (by simp)
  exact sorted_unique (h1.trans (by simpa using (nsort_perm l).symm)) h2 (nsort_pairwise l)
theorem nsort_of_perm {l r : List Nm} (h : l.Perm r) : nsort l = nsort r := sorted_unique ((nsort_perm l).trans (h.trans (nsort_perm r).symm)) (nsort_pairwise l) (nsort_pairwise r)
theorem nsort_filter (p : Nm → Bool) (l : List Nm) : (nsort l).filter p = nsort (l.filter p) :=
  sorted_unique (((nsort_perm l).filter p).trans (nsort_perm _).symm) ((nsort_pairwise l).sublist List.filter_sublist) (nsort_pairwise _)

/-- how often a name stands among predecessors -/
def behindN (l : List NOp) (n : Nm) : Nat := (l.flatMap (·.2.preds)).count n
def headsL (s : DS) : List Nm := nsort ((namesOf s.ops).filter fun n => decide (behindN s.ops n = 0))
def zeroOp : OpV := ⟨⟨0, [], [], zeroId⟩, 0, 0, []⟩
def nextD (s : DS) (author : Int) (d : Dr) : OpV × Int :=
  if goodD d = false ∨ author < 0 ∨ author > 4 then (zeroOp, 1)
  else if 32 < (headsL s).length then (zeroOp, 3)
  else (⟨d, author, depthOf s.ops ⟨d, author, 0, headsL s⟩, headsL s⟩, 0)

/-! ### the first that lacks nothing, in the order of names -/
theorem best_of_find {s : DS} (_ : (namesOf s.wait).Nodup) {e : NOp} {k : Nat} (hk : (nsort (namesOf s.wait))[k]? = some e.1) (he : e ∈ s.wait) (hw : wholeB s.ops e.2 = true)
    (hb : ∀ j, j < k → ∀ x ∈ s.wait, (nsort (namesOf s.wait))[j]? = some x.1 → wholeB s.ops x.2 = false) : IsBest s e := by
  refine ⟨he, hw, fun x hx hwx h3 => ?_⟩
  obtain ⟨j, hj⟩ := List.mem_iff_getElem?.1 (nsort_mem.2 (List.mem_map.2 ⟨x, hx, rfl⟩) : x.1 ∈ nsort (namesOf s.wait))
  rcases Nat.lt_or_ge j k with h1 | h1
  · have := hb j h1 x hx hj
    rw [this] at hwx
    cases hwx
  · have hp := List.pairwise_iff_getElem.1 (nsort_pairwise (namesOf s.wait))
    obtain ⟨hjl, hj'⟩ := List.getElem?_eq_some_iff.1 hj
    obtain ⟨hkl, hk'⟩ := List.getElem?_eq_some_iff.1 hk
    rcases Nat.lt_or_eq_of_le h1 with h2 | h2
    · exact hp k j hkl hjl h2 (by rw [hj', hk']; exact h3)
    · subst h2
      rw [hj'] at hk'
      rw [hk', cmpB_self] at h3
      omega
theorem bestI_none_of {s : DS} (h : ∀ x ∈ s.wait, wholeB s.ops x.2 = false) : bestI s.ops s.wait s.wait.length = none := by
  cases hb : bestI s.ops s.wait s.wait.length with
  | none => rfl
  | some i =>
    obtain ⟨_, e, he, hw⟩ := bestI_some hb
    rw [h e (List.mem_of_getElem? he)] at hw
    cases hw
theorem bestI_of_best {s : DS} (hd : (namesOf s.wait).Nodup) {e : NOp} (h : IsBest s e) : ∃ i, bestI s.ops s.wait s.wait.length = some i ∧ s.wait[i]? = some e := by
  cases hb : bestI s.ops s.wait s.wait.length with
  | none =>
    obtain ⟨j, hj⟩ := List.mem_iff_getElem?.1 h.mem
    have := bestI_none hb j (List.getElem?_eq_some_iff.1 hj).1 e hj
    rw [h.whole] at this
    cases this
  | some i =>
    obtain ⟨e', he', hbest⟩ := bestI_isBest hb
    rw [h.eq hd hbest]
    exact ⟨i, rfl, he'⟩
theorem drain_stop {f : Nat} {s : DS} {out : List Nm} (h : bestI s.ops s.wait s.wait.length = none) : drain f s out = (s, out) := by
  cases f with
  | zero => rfl
  | succ f => rw [drain, h]
theorem drain_go {s : DS} {out : List Nm} {i : Nat} {e : NOp} (h : bestI s.ops s.wait s.wait.length = some i) (he : s.wait[i]? = some e) :
    drain s.wait.length s out = drain (s.wait.eraseIdx i).length (putD ⟨s.ops, s.wait.eraseIdx i⟩ out e).1 (putD ⟨s.ops, s.wait.eraseIdx i⟩ out e).2 := by
  obtain ⟨hi, _⟩ := List.getElem?_eq_some_iff.1 he
  obtain ⟨n, hn⟩ : ∃ n, s.wait.length = n + 1 := ⟨s.wait.length - 1, by omega⟩
  rw [List.length_eraseIdx_of_lt hi, hn, drain, h]
  simp only [he, Nat.add_sub_cancel]
theorem putD_wait (s : DS) (out : List Nm) (e : NOp) : (putD s out e).1.wait = s.wait := by
  unfold putD
  split <;> rfl
end Go.Proofs.YtfoifdhcelcgiaaGreatDoor

/- 'for k := range m' AND 'm[k]++' OVER 'hasMap': the iterator as a list of what is still to come. -/
namespace Go.Proofs.YtfoifdhcelcgiaaGreatDoor
open Go Go.MapKept Go.ChangeMaps Go.RowKit
open Go.Maps (Keyed)

/-- block r iterates over the map in block b, which holds L; left is still to come -/
def iterOn (P : Program) (k : TypeId) (w : World) (r b : Nat) (L left : List (Value × Value)) : Prop :=
  ∃ es clock since seen c0, w.heap[b]? = some (.map es clock) ∧ Stamped es clock ∧ (∀ x ∈ es.toList, ∃ l, keyOf P k x.key = some l) ∧ (es.toList.map fun x => (x.key, x.val)).Perm L ∧
    w.heap[r]? = some (.mapIter (some b) since seen c0) ∧ (∀ x ∈ es.toList, x.born < since) ∧ since ≤ c0 ∧ since ≤ clock ∧ ((leftOf es seen).toList.map fun x => (x.key, x.val)).Perm left

section
variable {P : Program} {k : TypeId} {w w' : World} {b r : Nat} {L left : List (Value × Value)}

theorem iterOn.hasMap (h : iterOn P k w r b L left) : hasMap P k w b L := by
  obtain ⟨es, clock, _, _, _, h1, h2, h3, h4, _⟩ := h
  exact ⟨es, clock, h1, h2, h3, h4⟩

theorem iterOn.ne (h : iterOn P k w r b L left) : r ≠ b := by
  obtain ⟨es, clock, since, seen, c0, hb, _, _, _, hr, _⟩ := h
  intro e
  rw [e, hb] at hr
  cases hr

theorem iterOn.lt (h : iterOn P k w r b L left) : r < w.heap.size := by
  obtain ⟨es, clock, since, seen, c0, _, _, _, _, hr, _⟩ := h
  exact (Array.getElem?_eq_some_iff.1 hr).1

theorem iterOn.of_block (h : iterOn P k w r b L left) (hb : w'.heap[b]? = w.heap[b]?) (hr : w'.heap[r]? = w.heap[r]?) : iterOn P k w' r b L left := by
  obtain ⟨es, clock, since, seen, c0, h1, h2, h3, h4, h5, h6⟩ := h
  exact ⟨es, clock, since, seen, c0, hb.trans h1, h2, h3, h4, hr.trans h5, h6⟩

theorem iterOn.left_eq (h : iterOn P k w r b L left) : w.rangeLeft b r = left.length := by
  obtain ⟨es, clock, since, seen, c0, hb, _, _, _, hr, _, _, _, hl⟩ := h
  simp only [World.rangeLeft, hb, hr]
  have := hl.length_eq
  simpa using this

theorem hasMap.range {t e : TypeId} (h : Proofs.YtfoifdhcelcgiaaGreatDoor.hasMap P k w b L) (ht : P.underlying t = some (.map k e)) :
    ∃ w', (Instr.range t (.map (some b))).run P w = .ok (.pointer (some ⟨w.heap.size, 0, none⟩)) w' ∧ iterOn P k w' w.heap.size b L L ∧ w.grownBy w' none ∧ w'.heap.size = w.heap.size + 1 := by
  have hlt := h.lt
  obtain ⟨es, clock, hb, hs, hk, hp⟩ := h
  refine ⟨_, run_range_map w t k e b es clock ht hb, ⟨es, clock, clock, #[], clock, ((MapKept.heap_alloc w _).2 b hlt).trans hb, hs, hk, hp, (MapKept.heap_alloc w _).1, hs.1, Nat.le_refl _, Nat.le_refl _, ?_⟩, World.grownBy_alloc w _ none, by simp⟩
  have e1 : (leftOf es #[]).toList = es.toList := by simp only [leftOf, Array.toList_filter]; exact List.filter_eq_self.2 (fun x _ => by simp)
  rw [e1]; exact hp

theorem left_step {es : Array MapEntry} {seen : Array Nat} (hs : (es.toList.map (·.born)).Nodup) {e : MapEntry} (he : e ∈ (leftOf es seen).toList) :
    (leftOf es seen).toList.Perm (e :: (leftOf es (seen.push e.born)).toList) := by
  simp only [leftOf, Array.toList_filter] at he ⊢
  generalize es.toList = l at hs he
  clear es
  induction l with
  | nil => simp at he
  | cons x xs ih =>
    simp only [List.map_cons, List.nodup_cons] at hs
    by_cases hx : x = e
    · subst hx
      have hc : seen.contains x.born = false := by simp only [List.mem_filter] at he; simpa using he.2
      have h1 : (seen.push x.born).contains x.born = true := by simp
      simp only [List.filter_cons, hc, h1, Bool.not_false, Bool.not_true, if_true, Bool.false_eq_true, if_false]
      refine List.Perm.cons _ ?_
      have : xs.filter (fun y => !seen.contains y.born) = xs.filter (fun y => !(seen.push x.born).contains y.born) := by
        refine List.filter_congr fun y hy => ?_
        have hne : y.born ≠ x.born := fun h => hs.1 (h ▸ List.mem_map.2 ⟨y, hy, rfl⟩)
        simp [hne]
      rw [this]
    · have he' : e ∈ xs.filter (fun y => !seen.contains y.born) := by
        simp only [List.mem_filter, List.mem_cons] at he ⊢
        exact ⟨he.1.resolve_left (fun h => hx h.symm), he.2⟩
      have hex : e ∈ xs := (List.mem_filter.1 he').1
      have hne : x.born ≠ e.born := fun h => hs.1 (h ▸ List.mem_map.2 ⟨e, hex, rfl⟩)
      have hih := ih hs.2 he'
      by_cases hc : seen.contains x.born = true
      · have h1 : (seen.push e.born).contains x.born = true := by simp at hc ⊢; exact Or.inl hc
        simp only [List.filter_cons, hc, h1, Bool.not_true, Bool.false_eq_true, if_false]
        exact hih
      · have hc' : seen.contains x.born = false := by simpa using hc
        have h1 : (seen.push e.born).contains x.born = false := by simp at hc' ⊢; exact ⟨hc', hne⟩
        simp only [List.filter_cons, hc', h1, Bool.not_false, if_true]
        exact (hih.cons _).trans (List.Perm.swap _ _ _)

theorem iterOn.next (h : iterOn P k w r b L left) (ty : TypeId) :
    (left = [] ∧ (Instr.next (.pointer (some ⟨r, 0, none⟩)) false ty).run P w = .ok (.tuple #[.bool false]) w) ∨
    ∃ p left' w', left.Perm (p :: left') ∧ (Instr.next (.pointer (some ⟨r, 0, none⟩)) false ty).run P w = .ok (.tuple #[.bool true, p.1, p.2]) w' ∧
      iterOn P k w' r b L left' ∧ w.grownBy w' (some r) ∧ w'.heap.size = w.heap.size ∧ (Instr.entry (.pointer (some ⟨r, 0, none⟩))).run P w' = .ok (.tuple #[p.1, p.2]) w' := by
  have hne := h.ne
  obtain ⟨es, clock, since, seen, c0, hb, hs, hk, hp, hr, hold, hsc, hsk, hl⟩ := h
  rcases run_next_at (P := P) w ty r b since c0 seen es clock hr hb hold hsc with ⟨h0, hrun⟩ | ⟨e, he, w1, hal, hrun⟩
  · have h1 : leftOf es seen = #[] := Array.eq_empty_of_size_eq_zero h0
    rw [h1] at hl
    exact Or.inl ⟨by simpa using hl.symm.eq_nil, hrun⟩
  · obtain ⟨hem, hes⟩ := mem_left he
    have hr1 : w1.heap[r]? = some (.mapIter (some b) since seen c0) := by rcases hal with rfl | rfl <;> exact hr
    have hb1 : w1.heap[b]? = some (.map es clock) := by rcases hal with rfl | rfl <;> exact hb
    have hset := heap_set (o' := .mapIter (some b) since (seen.push e.born) clock) hr1
    have hb' : (setBlock w1 r (.mapIter (some b) since (seen.push e.born) clock)).heap[b]? = some (.map es clock) := (hset.2 b (fun e1 => hne e1.symm)).trans hb1
    refine Or.inr ⟨(e.key, e.val), (leftOf es (seen.push e.born)).toList.map (fun x => (x.key, x.val)), _, ?_, hrun,
      ⟨es, clock, since, seen.push e.born, clock, hb', hs, hk, hp, hset.1, hold, hsk, hsk, List.Perm.refl _⟩, ?_, ?_, run_entry_at _ r b since seen es clock e hset.1 hb' hem hs.2.1⟩
    · exact hl.symm.trans ((left_step hs.2.1 he).map _)
    · rcases hal with rfl | rfl <;> exact ⟨rfl, rfl, rfl, by simp [setBlock], fun i _ hi => hset.2 i (fun e1 => hi (by rw [e1]))⟩
    · rcases hal with rfl | rfl <;> simp [setBlock]

theorem find_born_idx : ∀ (l : List MapEntry), (l.map (·.born)).Nodup → ∀ (j : Nat) (e : MapEntry), l[j]? = some e → l.findIdx? (fun x => (x.born : Int) == (e.born : Int)) = some j
  | [], _, _, _, h => by simp at h
  | a :: r, hn, 0, e, h => by simp at h; subst h; simp [List.findIdx?_cons]
  | a :: r, hn, j + 1, e, h => by
    simp only [List.map_cons, List.nodup_cons] at hn
    simp at h
    have hne : a.born ≠ e.born := fun h' => hn.1 (h' ▸ List.mem_map.2 ⟨e, List.mem_of_getElem? h, rfl⟩)
    have hne' : ((a.born : Int) == (e.born : Int)) = false := by simp; omega
    simp [List.findIdx?_cons, hne', find_born_idx r hn.2 j e h]

theorem modify_same (es : Array MapEntry) (j : Nat) (f : MapEntry → MapEntry) (hf : ∀ e, es[j]? = some e → f e = e) : es.modify j f = es := by
  apply Array.ext_getElem?
  intro i
  rw [Array.getElem?_modify]
  split
  · rename_i h
    subst h
    cases he : es[j]? with
    | none => rfl
    | some e => simp [hf e he]
  · rfl

/-- 'm[k] op= ..' at a key that is there, one by one: the look at the entry turns nothing; the store into it is a store at the key. The iterator stays where it is. -/
theorem entry_ops {t e : TypeId} (h : Proofs.YtfoifdhcelcgiaaGreatDoor.hasMap P k w b L) (K : Keyed P k) (ht : P.underlying t = some (.map k e)) {key v : Value} {kl : Lit} (hkey : keyOf P k key = some kl) (hin : (key, v) ∈ L) :
    ∃ born : Int, (∀ n, (Instr.mapEntry t (.map (some b)) key).run P (w.drewN n) = .ok (.tuple #[v, .int .i64 born]) (w.drewN n)) ∧
      ∀ n val, ∃ w', (Instr.entryStore t (.map (some b)) (.int .i64 born) val).run P (w.drewN n) = .ok () w' ∧ w.grownBy w' (some b) ∧ w'.heap.size = w.heap.size ∧ (∀ R, restAt L key R → Proofs.YtfoifdhcelcgiaaGreatDoor.hasMap P k w' b ((key, val) :: R)) ∧
        ∀ r left, iterOn P k w r b L left → (∀ u, (key, u) ∉ left) → ∀ R, restAt L key R → iterOn P k w' r b ((key, val) :: R) left := by
  have hnd := h.nodup
  obtain ⟨es, clock, hb, hs, hk, hp⟩ := h
  obtain ⟨x0, hx0, hxe⟩ := List.mem_map.1 (hp.mem_iff.2 hin)
  rcases K.find w hkey es.toList hk with ⟨_, h2⟩ | ⟨j, e0, h1, h2, h3⟩
  · exact absurd (congrArg Prod.fst hxe) (h2 x0 hx0)
  · have hj : es[j]? = some e0 := by simpa using h2
    have h0v : e0.val = v := by
      have : x0 = e0 := entry_eq_of_key ((stamped_iff es clock).1 hs).2.2 hx0 (List.mem_of_getElem? h2) ((congrArg Prod.fst hxe).trans h3.symm)
      rw [← this]; exact congrArg Prod.snd hxe
    have hmod : es.modify j (fun e => { e with key := key }) = es := modify_same _ _ _ (fun e he => by rw [hj] at he; cases he; rw [← h3])
    have hfi : es.findIdx? (fun x => (x.born : Int) == (e0.born : Int)) = some j := by have := find_born_idx _ hs.2.1 j e0 h2; rw [← this]; cases es; simp
    refine ⟨e0.born, fun n => ?_, fun n val => ⟨setBlock (w.drewN n) b (.map (es.modify j (fun e' => { e' with val := val })) clock), ?_, ⟨rfl, rfl, rfl, by simp [setBlock, World.drewN], fun i _ hi => ?_⟩, by simp [setBlock, World.drewN], fun R hR => ?_, fun r left hit hnl R hR => ?_⟩⟩
    · have hbn : (w.drewN n).heap[b]? = some (.map es clock) := hb
      rcases K.find (w.drewN n) hkey es.toList hk with ⟨_, h2'⟩ | ⟨j', e', h1', h2'', h3'⟩
      · exact absurd h3 (h2' e0 (List.mem_of_getElem? h2))
      · have hee : e' = e0 := entry_eq_of_key ((stamped_iff es clock).1 hs).2.2 (List.mem_of_getElem? h2'') (List.mem_of_getElem? h2) (h3'.trans h3.symm)
        subst hee
        have hjj : es[j']? = some e' := by simpa using h2''
        have hmod' : es.modify j' (fun e => { e with key := key }) = es := modify_same _ _ _ (fun e he => by rw [hjj] at he; cases he; rw [← h3])
        have hself : setBlock (w.drewN n) b (.map es clock) = w.drewN n := by
          have hlt : b < w.heap.size := (Array.getElem?_eq_some_iff.1 hb).1
          simp only [setBlock]
          have : (w.drewN n).heap.setIfInBounds b (.map es clock) = (w.drewN n).heap := by
            apply Array.ext_getElem?
            intro i
            rw [Array.getElem?_setIfInBounds]
            split
            · rename_i hi
              subst hi
              rw [if_pos (show b < (w.drewN n).heap.size from hlt)]
              exact hbn.symm
            · rfl
          rw [this]
        have hso : (setObj b (.map es clock)).run P (w.drewN n) = .ok () (w.drewN n) := by
          have := MapKept.run_setObj_map (P := P) (.map es clock) hbn
          rw [this]
          exact congrArg (Result.ok ()) hself
        simp only [Instr.mapEntry, Sem.run_bind, run_underlying ht, Result.andThen, MapKept.run_getObj_map hbn, K.check (w.drewN n) false hkey, h1', hjj, Option.map_some, Option.getD_some, h3, K.stays (w.drewN n) hkey, hmod', hso, h0v, goInt, Sem.run_pure]
    · have hbn : (w.drewN n).heap[b]? = some (.map es clock) := hb
      simp only [Instr.entryStore, Sem.run_bind, MapKept.run_getObj_map hbn, Result.andThen, asInt, asIntOf, Sem.run_pure, hfi, MapKept.run_setObj_map _ hbn, setBlock]
    · exact heap_setBlock_other (w := w.drewN n) hb _ (fun e => hi (by rw [e]))
    · have hlist : (es.modify j (fun e' => { e' with val := val })).toList = es.toList.set j { e0 with val := val } := by rw [Array.toList_modify, modify_eq_set _ _ _ _ h2]
      have hmap : (es.toList.map fun x => (x.key, x.val))[j]? = some (key, e0.val) := by simp [hj, h3]
      have hps := perm_set _ j (key, e0.val) (key, val) hmap
      have hR' := restAt_perm hnd (Or.inl ⟨e0.val, hp.symm.trans hps.2⟩) hR
      refine ⟨_, _, heap_setBlock_same (w := w.drewN n) hb _, stamped_modify hs _ _ (fun _ _ => rfl) (fun _ _ _ => rfl), ?_, ?_⟩
      · intro x hx
        rw [hlist] at hx
        rcases List.mem_or_eq_of_mem_set hx with hx | rfl
        · exact hk x hx
        · exact ⟨kl, by rw [← hkey, ← h3]⟩
      · rw [hlist, List.map_set]
        simp only [h3]
        exact hps.1.trans (hR'.cons _)
    · obtain ⟨es2, clock2, since, seen, c0, hb2, _, _, hp2, hr2, hold, hsc, hsk, hl⟩ := hit
      rw [hb] at hb2
      cases hb2
      have hlist : (es.modify j (fun e' => { e' with val := val })).toList = es.toList.set j { e0 with val := val } := by rw [Array.toList_modify, modify_eq_set _ _ _ _ h2]
      have hmap : (es.toList.map fun x => (x.key, x.val))[j]? = some (key, e0.val) := by simp [hj, h3]
      have hps := perm_set _ j (key, e0.val) (key, val) hmap
      have hR' := restAt_perm hnd (Or.inl ⟨e0.val, hp.symm.trans hps.2⟩) hR
      have hrb : r ≠ b := fun e => by rw [e, hb] at hr2; cases hr2
      have hseen : seen.contains e0.born = true := by
        cases hc : seen.contains e0.born
        · have : e0 ∈ (leftOf es seen).toList := by simp only [leftOf, Array.toList_filter, List.mem_filter]; exact ⟨List.mem_of_getElem? h2, by rw [hc]; rfl⟩
          exact absurd (hl.mem_iff.1 (List.mem_map.2 ⟨e0, this, by rw [h3]⟩)) (hnl e0.val)
        · rfl
      have hleft : (leftOf (es.modify j (fun e' => { e' with val := val })) seen).toList = (leftOf es seen).toList := by
        simp only [leftOf, Array.toList_filter, hlist]
        have : ∀ (l : List MapEntry) (i : Nat), l[i]? = some e0 → (l.set i { e0 with val := val }).filter (fun x => !seen.contains x.born) = l.filter (fun x => !seen.contains x.born) := by
          intro l
          induction l with
          | nil => intro i h; simp at h
          | cons a t ih =>
            intro i h
            cases i with
            | zero =>
              simp at h
              subst h
              simp only [List.set_cons_zero, List.filter_cons, hseen, Bool.not_true, Bool.false_eq_true, if_false]
            | succ i =>
              simp at h
              simp only [List.set_cons_succ, List.filter_cons, ih i h]
        exact this _ j h2
      refine ⟨_, clock, since, seen, c0, heap_setBlock_same (w := w.drewN n) hb _, stamped_modify hs _ _ (fun _ _ => rfl) (fun _ _ _ => rfl), ?_, ?_, (heap_setBlock_other (w := w.drewN n) hb _ hrb).trans hr2, ?_, hsc, hsk, by rw [hleft]; exact hl⟩
      · intro x hx
        rw [hlist] at hx
        rcases List.mem_or_eq_of_mem_set hx with hx | rfl
        · exact hk x hx
        · exact ⟨kl, by rw [← hkey, ← h3]⟩
      · rw [hlist, List.map_set]
        simp only [h3]
        exact hps.1.trans (hR'.cons _)
      · intro x hx
        rw [hlist] at hx
        rcases List.mem_or_eq_of_mem_set hx with hx | rfl
        · exact hold x hx
        · exact hold e0 (List.mem_of_getElem? h2)

end

section
variable {P : Program} (w : World) {ops : Array Oper} {rest : List Oper} {o : Oper} {a : Act} {Q : Exit → Act → World → Prop}

theorem wpList_rangeL (hg : o.guard = none) (m : Operand) (t : TypeId) (hop : o.op = Op.range t m) (k e : TypeId) (ht : P.underlying t = some (.map k e)) (b : Nat) (L : List (Value × Value))
    (hm : a.eval m = .map (some b)) (hown : hasMap P k w b L)
    (hK : ∀ w', iterOn P k w' w.heap.size b L L → w.grownBy w' none → w'.heap.size = w.heap.size + 1 → wpList P ops Q rest (a.put o.dst (.pointer (some ⟨w.heap.size, 0, none⟩))) w') :
    wpList P ops Q (o :: rest) a w := by
  refine wpList_plain hg fun K' hK' => ?_
  obtain ⟨w', hrun, r1, r2, r3⟩ := hown.range ht
  unfold Oper.wp
  simp [execOp, hop, hm, hrun, Result.andThen]
  exact hK' _ _ (hK w' r1 r2 r3)

theorem wpList_nextL {α : Type} (hg : o.guard = none) (it : Operand) (hop : o.op = Op.next it false) (k : TypeId) (ek ev : α → Value) (r b : Nat) (L : List (Value × Value)) (left : List α)
    (hit : a.eval it = .pointer (some ⟨r, 0, none⟩)) (h : iterOn P k w r b L (left.map fun x => (ek x, ev x)))
    (hDone : left = [] → wpList P ops Q rest (a.put o.dst (.tuple #[.bool false])) w)
    (hMore : ∀ x left' w', left.Perm (x :: left') → iterOn P k w' r b L (left'.map fun x => (ek x, ev x)) → w.grownBy w' (some r) → w'.heap.size = w.heap.size →
      (Instr.entry (.pointer (some ⟨r, 0, none⟩))).run P w' = .ok (.tuple #[ek x, ev x]) w' → wpList P ops Q rest (a.put o.dst (.tuple #[.bool true, ek x, ev x])) w') :
    wpList P ops Q (o :: rest) a w := by
  refine wpList_plain hg fun K' hK' => ?_
  unfold Oper.wp
  rcases h.next o.type with ⟨h0, hrun⟩ | ⟨p, left1, w', hp, hrun, hi, hgr, hsz, hen⟩
  · simp [execOp, hop, hit, hrun, Result.andThen]
    exact hK' _ _ (hDone (by simpa using h0))
  · have hmem := hp.mem_iff.2 (List.mem_cons_self)
    obtain ⟨x, hx, rfl⟩ := List.mem_map.1 hmem
    obtain ⟨s, t, rfl⟩ := List.append_of_mem hx
    have hpp : (s ++ x :: t).Perm (x :: (s ++ t)) := List.perm_middle
    have hl1 : left1.Perm ((s ++ t).map fun x => (ek x, ev x)) := by
      have := (hp.symm.trans (hpp.map (fun x => (ek x, ev x))))
      rw [List.map_cons] at this
      exact (List.perm_cons _).1 this
    have hi' : iterOn P k w' r b L ((s ++ t).map fun x => (ek x, ev x)) := by
      obtain ⟨es, clock, since, seen, c0, g1, g2, g3, g4, g5, g6, g7, g8, g9⟩ := hi
      exact ⟨es, clock, since, seen, c0, g1, g2, g3, g4, g5, g6, g7, g8, g9.trans hl1⟩
    simp [execOp, hop, hit, hrun, Result.andThen]
    exact hK' _ _ (hMore x (s ++ t) w' hpp hi' hgr hsz hen)
end
end Go.Proofs.YtfoifdhcelcgiaaGreatDoor

/- 'm[k]++' at a key that may be there or not; a row of looks. Program-independent. -/
namespace Go.Proofs.YtfoifdhcelcgiaaGreatDoor
open Go Go.MapKept Go.ChangeMaps Go.RowKit
open Go.Maps (Keyed)

section
variable {P : Program} {k : TypeId} {w w' : World} {b : Nat} {L L' : List (Value × Value)}

theorem drewN_zero (w : World) : w.drewN 0 = w := rfl

theorem hasMap.entry {t e : TypeId} (h : Proofs.YtfoifdhcelcgiaaGreatDoor.hasMap P k w b L) (K : Keyed P k) (ht : P.underlying t = some (.map k e)) {z : Value} (hz : ∀ w, (zeroValue e).run P w = .ok z w) {key : Value} {kl : Lit} (hkey : keyOf P k key = some kl) :
    ∃ (v : Value) (born : Int) (w1 : World), (Instr.mapEntry t (.map (some b)) key).run P w = .ok (.tuple #[v, .int .i64 born]) w1 ∧ w.grownBy w1 (some b) ∧ w1.heap.size = w.heap.size ∧ (∃ L1, Proofs.YtfoifdhcelcgiaaGreatDoor.hasMap P k w1 b L1 ∧ (L1 = L ∨ ((∀ v, (key, v) ∉ L) ∧ L1 = (key, z) :: L))) ∧
      ∀ val, ∃ w2, (Instr.entryStore t (.map (some b)) (.int .i64 born) val).run P w1 = .ok () w2 ∧ w.grownBy w2 (some b) ∧ w2.heap.size = w.heap.size ∧ ∀ R, restAt L key R → Proofs.YtfoifdhcelcgiaaGreatDoor.hasMap P k w2 b ((key, val) :: R) := by
  have hnd := h.nodup
  have hh := h
  obtain ⟨es, clock, hb, hs, hk, hp⟩ := h
  rcases K.find w hkey es.toList hk with ⟨h1, h2⟩ | ⟨j, e0, h1, h2, h3⟩
  · have hs1 : Stamped (es.push ⟨key, z, clock⟩) (clock + 1) := stamped_push hs h2
    have hb1 := heap_setBlock_same hb (.map (es.push ⟨key, z, clock⟩) (clock + 1))
    have hrun1 : (Instr.mapEntry t (.map (some b)) key).run P w = .ok (.tuple #[z, .int .i64 clock]) (setBlock w b (.map (es.push ⟨key, z, clock⟩) (clock + 1))) := by
      simp [Instr.mapEntry, run_underlying ht, MapKept.run_getObj_map hb, K.check w false hkey, h1, hz, MapKept.run_setObj_map _ hb, Result.andThen, setBlock, goInt]
    have hg1 : w.grownBy (setBlock w b (.map (es.push ⟨key, z, clock⟩) (clock + 1))) (some b) := ⟨rfl, rfl, rfl, by simp [setBlock], fun i _ hi => heap_setBlock_other hb _ (fun e => hi (by rw [e]))⟩
    have hs2 : (setBlock w b (.map (es.push ⟨key, z, clock⟩) (clock + 1))).heap.size = w.heap.size := by simp [setBlock]
    generalize setBlock w b (.map (es.push ⟨key, z, clock⟩) (clock + 1)) = w1 at hb1 hrun1 hg1 hs2
    have hno : ∀ v, (key, v) ∉ L := fun v hv => by
      obtain ⟨x, hx, he⟩ := List.mem_map.1 (hp.mem_iff.2 hv)
      exact h2 x hx (congrArg Prod.fst he)
    refine ⟨z, clock, w1, hrun1, hg1, hs2, ⟨(key, z) :: L, ⟨_, _, hb1, hs1, ?_, ?_⟩, .inr ⟨hno, rfl⟩⟩, fun val => ?_⟩
    · intro x hx
      simp only [Array.toList_push, List.mem_append, List.mem_singleton] at hx
      rcases hx with hx | rfl
      · exact hk x hx
      · exact ⟨_, hkey⟩
    · simp only [Array.toList_push, List.map_append, List.map_cons, List.map_nil]
      exact (List.perm_append_singleton _ _).trans (hp.cons _)
    have hj : (es.push ⟨key, z, clock⟩).toList[es.size]? = some ⟨key, z, clock⟩ := by simp
    have hfi : (es.push ⟨key, z, clock⟩).findIdx? (fun x => (x.born : Int) == (clock : Int)) = some es.size := by
      have := find_born_idx _ hs1.2.1 es.size _ hj
      rw [← this]
      generalize es.push ⟨key, z, clock⟩ = es1
      cases es1
      simp
    refine ⟨setBlock w1 b (.map ((es.push ⟨key, z, clock⟩).modify es.size (fun e' => { e' with val := val })) (clock + 1)), ?_, ⟨hg1.os, hg1.tape, hg1.output, by simp [setBlock, hs2], fun i hi hi2 => ?_⟩, by simp [setBlock, hs2], fun R hR => ?_⟩
    · simp only [Instr.entryStore, Sem.run_bind, MapKept.run_getObj_map hb1, Result.andThen, asInt, asIntOf, Sem.run_pure, hfi, MapKept.run_setObj_map _ hb1, setBlock]
    · have hne : i ≠ b := fun e => hi2 (by rw [e])
      exact (heap_setBlock_other hb1 _ hne).trans (hg1.block i hi hi2)
    · have hno : ∀ v, (key, v) ∉ L := fun v hv => by
        obtain ⟨x, hx, he⟩ := List.mem_map.1 (hp.mem_iff.2 hv)
        exact h2 x hx (congrArg Prod.fst he)
      have hR' : L.Perm R := (restAt_perm hnd (Or.inr ⟨List.Perm.refl _, hno⟩) hR)
      have hmod : ((es.push ⟨key, z, clock⟩).modify es.size (fun e' => { e' with val := val })).toList = es.toList ++ [⟨key, val, clock⟩] := by
        rw [Array.toList_modify, modify_eq_set _ _ _ _ hj]
        simp
      have hj2 : (es.push ⟨key, z, clock⟩)[es.size]? = some ⟨key, z, clock⟩ := by simp
      refine ⟨_, _, heap_setBlock_same hb1 _, stamped_modify hs1 _ _ (fun _ _ => rfl) (fun e' _ he' => by rfl), ?_, ?_⟩
      · intro x hx
        rw [hmod, List.mem_append, List.mem_singleton] at hx
        rcases hx with hx | rfl
        · exact hk x hx
        · exact ⟨_, hkey⟩
      · rw [hmod, List.map_append]
        exact (List.perm_append_singleton _ _).trans ((hp.trans hR').cons _)
  · have hin : (key, e0.val) ∈ L := hp.mem_iff.1 (List.mem_map.2 ⟨e0, List.mem_of_getElem? h2, by rw [h3]⟩)
    obtain ⟨born, g1, g2⟩ := entry_ops hh K ht hkey hin
    refine ⟨e0.val, born, w, g1 0, World.grownBy.refl _ _, rfl, ⟨L, hh, .inl rfl⟩, fun val => ?_⟩
    obtain ⟨w', r1, r2, r3, r4, _⟩ := g2 0 val
    exact ⟨w', r1, r2, r3, r4⟩
end

section
variable {P : Program} (w : World) {ops : Array Oper} {rest : List Oper} {o : Oper} {a : Act} {Q : Exit → Act → World → Prop}
theorem wpList_entryStore (hg : o.guard = none) (m s v : Operand) (t : TypeId) (hop : o.op = Op.entryStore t m s v) (mv sv vv : Value) (hm : a.eval m = mv) (hs : a.eval s = sv) (hv : a.eval v = vv) (w2 : World)
    (hrun : (Instr.entryStore t mv sv vv).run P w = .ok () w2) (hK : wpList P ops Q rest (a.put o.dst undef) w2) :
    wpList P ops Q (o :: rest) a w := by
  refine wpList_plain hg fun K' hK' => ?_
  unfold Oper.wp
  simp [execOp, hop, hm, hs, hv, hrun, Result.andThen]
  exact hK' _ _ hK

/-- one operation that comes to an end -/
theorem wp_run {K : Act → World → Prop} {v : Value} {w' : World} (h : (execOp a.eval o).run P w = .ok (.value v) w') (hK : K (a.put o.dst v) w') : o.wp P a w K Q := by
  unfold Oper.wp
  rw [h]
  exact hK
/-- the look at the entry -/
theorem wp_entry {K : Act → World → Prop} (m x : Operand) (t : TypeId) (hop : o.op = Op.mapEntry t m x)
    (k e : TypeId) (K' : Keyed P k) (ht : P.underlying t = some (.map k e)) (z : Value) (hz : ∀ w, (zeroValue e).run P w = .ok z w) (b : Nat) (L : List (Value × Value))
    (hm : a.eval m = .map (some b)) (hown : Proofs.YtfoifdhcelcgiaaGreatDoor.hasMap P k w b L) (key : Value) (kl : Lit) (hx : a.eval x = key) (hkey : keyOf P k key = some kl)
    (hK : ∀ (v : Value) (born : Int) (w1 : World), w.grownBy w1 (some b) → w1.heap.size = w.heap.size → (∃ L1, Proofs.YtfoifdhcelcgiaaGreatDoor.hasMap P k w1 b L1 ∧ (L1 = L ∨ ((∀ v, (key, v) ∉ L) ∧ L1 = (key, z) :: L))) → (∀ val, ∃ w2, (Instr.entryStore t (.map (some b)) (.int .i64 born) val).run P w1 = .ok () w2 ∧ w.grownBy w2 (some b) ∧ w2.heap.size = w.heap.size ∧ ∀ R, restAt L key R → Proofs.YtfoifdhcelcgiaaGreatDoor.hasMap P k w2 b ((key, val) :: R)) → K (a.put o.dst (.tuple #[v, .int .i64 born])) w1) :
    o.wp P a w K Q := by
  obtain ⟨v, born, w1, hrun, r1, r2, r3, r4⟩ := hown.entry K' ht hz hkey
  refine wp_run w (v := .tuple #[v, .int .i64 born]) (w' := w1) ?_ (hK v born w1 r1 r2 r3 r4)
  unfold execOp
  simp only [hop, hm, hx, Sem.run_bind, hrun, Result.andThen_ok, Sem.run_pure]
theorem wp_allocZ {K : Act → World → Prop} (t : TypeId) (hop : o.op = .alloc t) (Z : Value) (hz : ∀ w, (zeroValue t).run P w = .ok Z w)
    (h : K (a.put o.dst (.pointer (some ⟨w.heap.size, 0, none⟩))) (w.alloc (.cells Z.cells t))) : o.wp P a w K Q := by
  have hn : (newVar t Z).run P w = .ok ⟨w.heap.size, 0, none⟩ (w.alloc (.cells Z.cells t)) := rfl
  refine wp_run w ?_ h
  unfold execOp
  simp only [hop, Instr.alloc, Sem.run_bind, hz, Result.andThen_ok, hn, Sem.run_pure]
theorem exec_storeNew (w0 : World) (t : TypeId) (x v : Operand) (hop : o.op = .store t x v) (Z : Array Value) (hw : w = w0.alloc (.cells Z t))
    (hx : a.eval x = .pointer (some ⟨w0.heap.size, 0, none⟩)) (cs : Array Value) (hv : a.eval v = .agg cs) (hi : (P.info? t).map (·.size) = some cs.size) (hZ : Z.size = cs.size) (h1 : ∀ u ∈ cs.toList, u.oneCell' = true) :
    (execOp a.eval o).run P w = .ok .skip (w0.alloc (.cells cs t)) := by
  subst hw
  have hst : (storeCells ⟨w0.heap.size, 0, none⟩ cs.toList).run P (w0.alloc (.cells Z t)) = .ok () ((w0.alloc (.cells Z t)).setRow w0.heap.size cs) := by
    have := run_storeCells_from (P := P) w0.heap.size t cs.toList 0 Z (w0.alloc (.cells Z t)) (MapKept.heap_alloc w0 _).1 (by simp [hZ]) h1
    simpa using this
  have hrow : (w0.alloc (.cells Z t)).setRow w0.heap.size cs = w0.alloc (.cells cs t) := by
    unfold World.setRow World.alloc
    simp only
    congr 1
    apply Array.ext_getElem?
    intro i
    rw [Array.getElem?_modify]
    split
    · rename_i hi'
      subst hi'
      simp
    · rename_i hi'
      rw [Array.getElem?_push, Array.getElem?_push, if_neg (fun e => hi' e.symm), if_neg (fun e => hi' e.symm)]
  have hsv : (storeVar t ⟨w0.heap.size, 0, none⟩ (.agg cs)).run P (w0.alloc (.cells Z t)) = .ok () (w0.alloc (.cells cs t)) := by
    unfold storeVar
    simp only [Sem.run_bind, sizeOf_of hi, Result.andThen, Value.cells, ne_eq, not_true_eq_false, if_false, hst, hrow]
  unfold execOp
  simp only [hop, hx, hv, Instr.storeAt, Instr.sureAddr, Sem.run_bind, Sem.run_pure, Result.andThen_ok, hsv]

theorem wp_storeNew {K : Act → World → Prop} (w0 : World) (t : TypeId) (x v : Operand) (hop : o.op = .store t x v) (Z : Array Value) (hw : w = w0.alloc (.cells Z t))
    (hx : a.eval x = .pointer (some ⟨w0.heap.size, 0, none⟩)) (cs : Array Value) (hv : a.eval v = .agg cs) (hi : (P.info? t).map (·.size) = some cs.size) (hZ : Z.size = cs.size) (h1 : ∀ u ∈ cs.toList, u.oneCell' = true)
    (h : K (a.put o.dst undef) (w0.alloc (.cells cs t))) : o.wp P a w K Q := by
  unfold Oper.wp
  rw [exec_storeNew w w0 t x v hop Z hw hx cs hv hi hZ h1]
  exact h

variable {S : World → Prop} {md : Region.Mode} {n : Nat}
/-- a look-up of what S names -/
theorem Till.look (i : Nat) {fuel : Nat} {oi : Oper} {listed : Array Bool} {a : Act} {w : World} (t : TypeId) (m x : Operand) (c : Bool) (mv key v : Value) {rest : List Oper} (hi0 : ops.toList.drop i = oi :: rest) (hop : oi.op = .lookup t m x c) (hw : Region.wanted oi (yielded ops a.tmps) = true)
    (hm : a.eval m = mv) (hx : a.eval x = key) (hB : mayB md ops n i listed = true) (hQ : NoFrame Q) (hS : S w) (hl : ∀ w', S w' → (Instr.lookup t mv key c).run P w' = .ok v w')
    (h : Till P md ops Q S n fuel (listed.setIfInBounds i true) (a.put oi.dst v) w) : Till P md ops Q S n (fuel + 1) listed a w :=
  Till.take (v := v) (at_drop hi0) hB hQ hS (.inl ⟨hw, fun w' hS' => by
    unfold execOp
    simp only [hop, hm, hx, Sem.run_bind, Sem.run_pure, Result.andThen_ok, hl w' hS']⟩) h
end

/-! ### []T{x}, []T{x, y} of wide values -/
theorem foldl_set : ∀ (l : List Value) (k : Nat) (base : Array Value), k + l.length ≤ base.size → ((l.zipIdx k).foldl (fun cs (x : Value × Nat) => cs.setIfInBounds x.2 x.1) base).toList = base.toList.take k ++ l ++ base.toList.drop (k + l.length)
  | [], k, base, _ => by simp
  | a :: r, k, base, h => by
    simp only [List.length_cons] at h
    simp only [List.zipIdx_cons, List.foldl_cons]
    rw [foldl_set r (k + 1) _ (by simp; omega)]
    simp only [Array.toList_setIfInBounds, List.length_cons]
    have hk : k < base.toList.length := by simp; omega
    have e1 : (base.toList.set k a).take (k + 1) = base.toList.take k ++ [a] := by
      rw [List.take_add_one, List.take_set_of_le (by omega)]
      have e2 : k < base.size := by omega
      simp [e2]
    rw [e1, List.drop_set_of_lt (by omega)]
    simp [Nat.add_assoc, Nat.add_comm 1]

theorem fold_cells (off : Nat) (cs base : Array Value) (h : off + cs.size ≤ base.size) :
    (cs.zipIdx.foldl (fun (c : Array Value) (x : Value × Nat) => c.setIfInBounds (off + x.2) x.1) base).toList = base.toList.take off ++ cs.toList ++ base.toList.drop (off + cs.size) := by
  have h1 : ∀ (l : List Value) (k : Nat) (b : Array Value), (l.zipIdx k).foldl (fun (c : Array Value) (x : Value × Nat) => c.setIfInBounds (off + x.2) x.1) b = (l.zipIdx (off + k)).foldl (fun cs (x : Value × Nat) => cs.setIfInBounds x.2 x.1) b := by
    intro l
    induction l with
    | nil => intro k b; rfl
    | cons a r ih =>
      intro k b
      simp only [List.zipIdx_cons, List.foldl_cons]
      rw [ih]
      rfl
  rw [← Array.foldl_toList, Array.toList_zipIdx, h1 cs.toList 0 base]
  have := foldl_set cs.toList off base (by simpa using h)
  simpa using this

theorem run_buildOne {P : Program} {w : World} {t e : TypeId} {n : Nat} {Z : Value} (ht : P.underlying t = some (.slice e)) (hi : (P.info? e).map (·.size) = some n) (hn : 0 < n) (hn2 : n ≤ 1000) (hz : ∀ w, (zeroValue e).run P w = .ok Z w) {cs : Array Value} (hc : cs.size = n) :
    (Instr.buildSlice t 1 #[(0, .agg cs)]).run P w = .ok (.slice (some ⟨w.heap.size, 0, none⟩) 1 1) (w.alloc (.cells cs e)) := by
  subst hc
  have hf : Instr.fill (fun i => some (i * cs.size, cs.size)) ((Array.range (1 * cs.size)).map (Z.cells[· % Z.cells.size]!)) [(0, .agg cs)] = some cs := by
    simp only [Instr.fill, Value.cells, ne_eq, not_true_eq_false, decide_false, Bool.false_or]
    rw [if_neg (by simp)]
    congr 1
    apply Array.ext'
    rw [fold_cells _ _ _ (by simp)]
    simp
  unfold Instr.buildSlice
  simp only [Sem.run_bind, run_underlying ht, Result.andThen_ok, sizeOf_of hi]
  rw [if_neg (by omega), if_neg (by omega)]
  simp only [Sem.run_bind, hz, Result.andThen_ok, Sem.run_pure, hf]
  rfl

theorem wpList_buildOne {P : Program} (w : World) {ops : Array Oper} {rest : List Oper} {o : Oper} {a : Act} {Q : Exit → Act → World → Prop} (hg : o.guard = none) (t : TypeId) (x : Operand) (hop : o.op = .buildSlice t 1 #[(0, x)])
    (e : TypeId) (n : Nat) (Z : Value) (ht : P.underlying t = some (.slice e)) (hi : (P.info? e).map (·.size) = some n) (hn : 0 < n) (hn2 : n ≤ 1000) (hz : ∀ w, (zeroValue e).run P w = .ok Z w) (cs : Array Value) (hx : a.eval x = .agg cs) (hc : cs.size = n)
    (h : wpList P ops Q rest (a.put o.dst (.slice (some ⟨w.heap.size, 0, none⟩) 1 1)) (w.alloc (.cells cs e))) : wpList P ops Q (o :: rest) a w := by
  refine wpList_plain hg fun K' hK' => ?_
  have hr := run_buildOne (w := w) ht hi hn hn2 hz hc
  unfold Oper.wp execOp
  simp only [hop, List.map_toArray, List.map_cons, List.map_nil, hx, Sem.run_bind, hr, Result.andThen_ok, Sem.run_pure]
  exact hK' _ _ h
end Go.Proofs.YtfoifdhcelcgiaaGreatDoor

/- dag.Set as it lies: three maps, and the rows of predecessors that it keeps; what stays when something else is written. -/
namespace Go.Proofs.YtfoifdhcelcgiaaGreatDoor
open Go Go.RowKit

/-- all but what S names stays -/
structure Keeps (S : Nat → Prop) (w w' : World) : Prop where
  os : w'.os = w.os
  tape : w'.tape = w.tape
  output : w'.output = w.output
  size : w.heap.size ≤ w'.heap.size
  block : ∀ b, b < w.heap.size → ¬ S b → w'.heap[b]? = w.heap[b]?
theorem Keeps.refl (S : Nat → Prop) (w : World) : Keeps S w w := ⟨rfl, rfl, rfl, Nat.le_refl _, fun _ _ _ => rfl⟩
theorem Keeps.trans {S : Nat → Prop} {a b c : World} (h : Keeps S a b) (k : Keeps S b c) : Keeps S a c :=
  ⟨k.os.trans h.os, k.tape.trans h.tape, k.output.trans h.output, Nat.le_trans h.size k.size, fun i hi hs => (k.block i (Nat.lt_of_lt_of_le hi h.size) hs).trans (h.block i hi hs)⟩
/-- what is new since a may be written, too -/
theorem Keeps.trans' {S T : Nat → Prop} {a b c : World} (h : Keeps S a b) (k : Keeps T b c) (ht : ∀ i, T i → S i ∨ a.heap.size ≤ i) : Keeps S a c :=
  ⟨k.os.trans h.os, k.tape.trans h.tape, k.output.trans h.output, Nat.le_trans h.size k.size, fun i hi hs => (k.block i (Nat.lt_of_lt_of_le hi h.size) (fun x => (ht i x).elim hs (fun y => by omega))).trans (h.block i hi hs)⟩
theorem Keeps.mono {S T : Nat → Prop} {a b : World} (h : Keeps S a b) (hs : ∀ i, S i → T i) : Keeps T a b :=
  ⟨h.os, h.tape, h.output, h.size, fun i hi ht => h.block i hi (fun x => ht (hs i x))⟩
theorem Keeps.of_below {S : Nat → Prop} {w w' : World} (h : Below w.heap.size w w') : Keeps S w w' :=
  ⟨h.os, h.tape, h.output, h.size, fun i hi _ => h.block i hi⟩
theorem Keeps.of_grown {S : Nat → Prop} {w w' : World} {r : Nat} (h : w.grownBy w' (some r)) (hr : S r) : Keeps S w w' :=
  ⟨h.os, h.tape, h.output, h.size, fun i hi hs => h.block i hi (fun e => hs (by cases e; exact hr))⟩
theorem Keeps.toBelow {S : Nat → Prop} {w w' : World} {B : Nat} (h : Keeps S w w') (hB : B ≤ w.heap.size) (hs : ∀ i, i < B → ¬ S i) : Below B w w' :=
  ⟨h.os, h.tape, h.output, h.size, fun i hi => h.block i (Nat.lt_of_lt_of_le hi hB) (hs i hi)⟩
theorem Keeps.drew {S : Nat → Prop} {w w' : World} (h : Keeps S w w') : Keeps S w w'.drew := ⟨h.os, h.tape, h.output, h.size, h.block⟩

/-- an operation that is kept: its name, and where its predecessors lie -/
structure E3 where
  n : Nm
  o : OpV
  p : Option Addr
  c : Nat
def E3.ent (e : E3) : NOp := (e.n, e.o)
def E3.cs (e : E3) : List Value := e.o.cs e.p e.c
def E3.kv (e : E3) : Value × Value := (idv e.n, .agg e.cs.toArray)
structure E3.Ok (w : World) (B : Nat → Prop) (e : E3) : Prop where
  ok : e.o.Ok
  len : e.n.length = 32
  src : Src w e.p (pcs e.o.preds)
  at_ : ∀ b off, e.p = some ⟨b, off, none⟩ → e.o.preds ≠ [] → B b
theorem E3.Ok.keeps {w w' : World} {B : Nat → Prop} {e : E3} (h : e.Ok w B) (hs : w.heap.size ≤ w'.heap.size) (hb : ∀ b, b < w.heap.size → B b → w'.heap[b]? = w.heap[b]?) : e.Ok w' B :=
  ⟨h.ok, h.len, h.src.of_blocks hs (fun b off e hlt hne => hb b hlt (h.at_ b off e (pcs_ne hne))), h.at_⟩
theorem E3.Ok.mono {w : World} {B B' : Nat → Prop} {e : E3} (h : e.Ok w B) (hb : ∀ i, B i → B' i) : e.Ok w B' := ⟨h.ok, h.len, h.src, fun b off e hne => hb _ (h.at_ b off e hne)⟩

def cntOf (T : List (Nm × Nat)) (n : Nm) : Nat := ((T.find? fun x => decide (x.1 = n)).map (·.2)).getD 0
def tkv (x : Nm × Nat) : Value × Value := (idv x.1, .int .i64 x.2)

structure DagSet (w : World) (b mo mw mt : Nat) (B : Nat → Prop) (O W : List E3) (T : List (Nm × Nat)) : Prop where
  box : w.heap[b]? = some (.cells #[.map (some mo), .map (some mw), .map (some mt)] 80 (0, 0))
  ops : hasMap Tryz.prog 31 w mo (O.map E3.kv)
  wait : hasMap Tryz.prog 31 w mw (W.map E3.kv)
  out : hasMap Tryz.prog 31 w mt (T.map tkv)
  okO : ∀ e ∈ O, e.Ok w B
  okW : ∀ e ∈ W, e.Ok w B
  okT : ∀ x ∈ T, x.1.length = 32
  cnt : ∀ n, cntOf T n = behindN (O.map E3.ent) n
  inB : B b ∧ B mo ∧ B mw ∧ B mt
  ne : mo ≠ mw ∧ mo ≠ mt ∧ mw ≠ mt
  rows : ∀ e ∈ O ++ W, ∀ i off, e.p = some ⟨i, off, none⟩ → i ≠ b ∧ i ≠ mo ∧ i ≠ mw ∧ i ≠ mt

section
variable {w w' : World} {b mo mw mt : Nat} {B : Nat → Prop} {O W : List E3} {T : List (Nm × Nat)}
theorem DagSet.keeps (h : DagSet w b mo mw mt B O W T) (hs : w.heap.size ≤ w'.heap.size) (hb : ∀ i, i < w.heap.size → B i → w'.heap[i]? = w.heap[i]?) : DagSet w' b mo mw mt B O W T :=
  ⟨(hb b (Array.getElem?_eq_some_iff.1 h.box).1 h.inB.1).trans h.box, h.ops.of_block (hb _ h.ops.lt h.inB.2.1), h.wait.of_block (hb _ h.wait.lt h.inB.2.2.1), h.out.of_block (hb _ h.out.lt h.inB.2.2.2),
    fun e he => (h.okO e he).keeps hs hb, fun e he => (h.okW e he).keeps hs hb, h.okT, h.cnt, h.inB, h.ne, h.rows⟩
theorem DagSet.under (h : DagSet w b mo mw mt B O W T) (hb : Below w.heap.size w w') : DagSet w' b mo mw mt B O W T := h.keeps hb.size (fun i hi _ => hb.block i hi)
theorem DagSet.below {N : Nat} (h : DagSet w b mo mw mt B O W T) (hb : Below N w w') (hN : w.heap.size ≤ N) : DagSet w' b mo mw mt B O W T := h.keeps hb.size (fun i hi _ => hb.block i (by omega))
theorem DagSet.lt (h : DagSet w b mo mw mt B O W T) : b < w.heap.size := (Array.getElem?_eq_some_iff.1 h.box).1
theorem DagSet.c0 (h : DagSet w b mo mw mt B O W T) : w.cell? ⟨b, 0, none⟩ = some (.map (some mo)) := by simp [World.cell?, h.box]
theorem DagSet.c1 (h : DagSet w b mo mw mt B O W T) : w.cell? ⟨b, 1, none⟩ = some (.map (some mw)) := by simp [World.cell?, h.box]
theorem DagSet.c2 (h : DagSet w b mo mw mt B O W T) : w.cell? ⟨b, 2, none⟩ = some (.map (some mt)) := by simp [World.cell?, h.box]
end

/-! ### looks -/
theorem opZero : (Tryz.prog.info? 46).map (fun i => (i.zero, i.size)) = some (some (.agg (zeroOp.cs none 0).toArray), 38) := by kernel_rfl
theorem intZero : (Tryz.prog.info? 3).map (fun i => (i.zero, i.size)) = some (some (.int .i64 0), 1) := by kernel_rfl
theorem zeroOp_ok : zeroOp.Ok := by
  refine ⟨⟨by decide, by decide, rfl, by decide, by decide⟩, ?_, ?_, ?_, ?_, ?_, ?_⟩ <;> simp [zeroOp]

def e3At (O : List E3) (n : Nm) : Option E3 := O.find? fun e => decide (e.n = n)
def valAt (O : List E3) (n : Nm) : List Value := match e3At O n with | some e => e.cs | none => zeroOp.cs none 0
theorem e3At_ent (O : List E3) (n : Nm) : (e3At O n).map (·.o) = opAt (O.map E3.ent) n := by
  unfold e3At opAt
  rw [List.find?_map, Option.map_map]
  rfl
theorem hasN_ent (O : List E3) (n : Nm) : hasN (O.map E3.ent) n = (e3At O n).isSome := by
  unfold hasN e3At
  rw [List.any_map, Bool.eq_iff_iff, List.any_eq_true, List.find?_isSome]
  rfl
theorem e3At_mem {O : List E3} {n : Nm} {e : E3} (h : e3At O n = some e) : e ∈ O ∧ e.n = n := by
  have h1 := List.find?_some h
  exact ⟨List.mem_of_find?_eq_some h, by simpa using h1⟩
theorem find_mem {α : Type} [DecidableEq α] {β : Type} {k : β → α} : ∀ {O : List β} {e : β}, (O.map k).Nodup → e ∈ O → O.find? (fun x => decide (k x = k e)) = some e
  | [], _, _, h => by simp at h
  | a :: r, e, hd, h => by
    simp only [List.map_cons, List.nodup_cons] at hd
    rcases List.mem_cons.1 h with rfl | h
    · simp
    · have hne : k a ≠ k e := fun e' => hd.1 (e' ▸ List.mem_map.2 ⟨e, h, rfl⟩)
      simp only [List.find?_cons, hne, decide_false]
      exact find_mem hd.2 h
theorem kv_nodup {O : List E3} (h : ((O.map E3.kv).map (·.1)).Nodup) : (O.map (·.n)).Nodup := by
  rw [List.map_map] at h
  have : (O.map ((·.1) ∘ E3.kv)) = (O.map (·.n)).map idv := by rw [List.map_map]; rfl
  rw [this] at h
  exact List.Pairwise.of_map idv (fun a b h e => h (congrArg idv e)) h
theorem hasMap.look3 {w : World} {m : Nat} {O : List E3} (h : hasMap Tryz.prog 31 w m (O.map E3.kv)) {n : Nm} (hn : n.length = 32) (c : Bool) :
    (Instr.lookup 78 (.map (some m)) (idv n) c).run Tryz.prog w = .ok (if c then .tuple #[.agg (valAt O n).toArray, .bool (hasN (O.map E3.ent) n)] else .agg (valAt O n).toArray) w := by
  obtain ⟨kl, hkey⟩ := idKeyOf n hn
  rcases h.look idLaw Tryz.underlying78 ((info_two opZero).1 w) hkey c with ⟨hno, hrun⟩ | ⟨v, hv, hrun⟩
  · have h1 : e3At O n = none := by
      cases he : e3At O n with
      | none => rfl
      | some e =>
        obtain ⟨h2, rfl⟩ := e3At_mem he
        exact absurd (List.mem_map.2 ⟨e, h2, rfl⟩) (hno (.agg e.cs.toArray))
    rw [hrun, hasN_ent, valAt, h1]
    rfl
  · obtain ⟨e, he, hkv⟩ := List.mem_map.1 hv
    have h1 : e.n = n := idv_inj (Prod.mk.inj hkv).1
    subst h1
    have h2 : e3At O e.n = some e := find_mem (kv_nodup h.nodup) he
    rw [hrun, hasN_ent, valAt, h2, ← (Prod.mk.inj hkv).2]
    rfl
theorem valAt_length {w : World} {B : Nat → Prop} {O : List E3} (h : ∀ e ∈ O, e.Ok w B) (n : Nm) : (valAt O n).length = 38 := by
  unfold valAt
  split
  · rename_i e he
    exact OpV.cs_length (h e (e3At_mem he).1).ok _ _
  · exact OpV.cs_length zeroOp_ok _ _
theorem valAt_one (O : List E3) (n : Nm) : ∀ u ∈ valAt O n, u.oneCell' = true := by
  unfold valAt
  split
  · exact OpV.cs_one _ _ _
  · exact OpV.cs_one _ _ _
theorem valAt_depth {w : World} {B : Nat → Prop} {O : List E3} (h : ∀ e ∈ O, e.Ok w B) (n : Nm) : (valAt O n)[36]? = some (.int .i64 (depAt (O.map E3.ent) n)) := by
  unfold depAt
  rw [← e3At_ent]
  unfold valAt
  have key : ∀ (o : OpV) (p : Option Addr) (c : Nat), o.Ok → (o.cs p c)[36]? = some (.int .i64 o.depth) := fun o p c ho => by
    unfold OpV.cs
    rw [List.getElem?_append_right (by rw [Dr.cs_length ho.d]; omega), Dr.cs_length ho.d]
    rfl
  split
  · rename_i e he
    rw [he]
    exact key _ _ _ (h e (e3At_mem he).1).ok
  · rename_i he
    rw [he]
    exact key _ _ _ zeroOp_ok
theorem hasMap.lookT {w : World} {m : Nat} {T : List (Nm × Nat)} (h : hasMap Tryz.prog 31 w m (T.map tkv)) {n : Nm} (hn : n.length = 32) :
    (Instr.lookup 70 (.map (some m)) (idv n) false).run Tryz.prog w = .ok (.int .i64 (cntOf T n)) w := by
  obtain ⟨kl, hkey⟩ := idKeyOf n hn
  rcases h.look idLaw Tryz.underlying70 ((info_two intZero).1 w) hkey false with ⟨hno, hrun⟩ | ⟨v, hv, hrun⟩
  · have h1 : T.find? (fun x => decide (x.1 = n)) = none := by
      cases he : T.find? (fun x => decide (x.1 = n)) with
      | none => rfl
      | some e =>
        have h2 := List.mem_of_find?_eq_some he
        have h3 : e.1 = n := by simpa using List.find?_some he
        subst h3
        exact absurd (List.mem_map.2 ⟨e, h2, rfl⟩) (hno (.int .i64 e.2))
    rw [hrun, cntOf, h1]
    rfl
  · obtain ⟨e, he, hkv⟩ := List.mem_map.1 hv
    have h1 : e.1 = n := idv_inj (Prod.mk.inj hkv).1
    subst h1
    have hnd : (T.map (·.1)).Nodup := by
      have := h.nodup
      rw [List.map_map] at this
      have h4 : (T.map ((·.1) ∘ tkv)) = (T.map (·.1)).map idv := by rw [List.map_map]; rfl
      rw [h4] at this
      exact List.Pairwise.of_map idv (fun a b h e => h (congrArg idv e)) this
    have h2 : T.find? (fun x => decide (x.1 = e.1)) = some e := find_mem hnd he
    rw [hrun, cntOf, h2, ← (Prod.mk.inj hkv).2]
    rfl
end Go.Proofs.YtfoifdhcelcgiaaGreatDoor

/- dag.New; what an operation lacks. -/
namespace Go.Proofs.YtfoifdhcelcgiaaGreatDoor
open Go Go.RowKit

def oneB (b : Nat) : Nat → Prop := fun i => i = b

set_option maxRecDepth 100000 in
set_option maxHeartbeats 1000000 in
theorem dnew_any (w : World) : Calls Tryz.prog 32 #[] w fun e w' => ∃ b mo mw mt, e = .returned (.pointer (some ⟨b, 0, none⟩)) ∧ DagSet w' b mo mw mt (fun i => w.heap.size ≤ i) [] [] [] ∧ Below w.heap.size w w' := by
  have hmm := @run_makeMap Tryz.prog
  go_enter Tryz.func32, Tryz.ntmps32
  go_wp2
  go_ret
  have hb1 : Below w.heap.size w (w.alloc (.map #[] 0)) := (Below.refl _ w).alloc (Nat.le_refl _) _
  have hb2 : Below w.heap.size w ((w.alloc (.map #[] 0)).alloc (.map #[] 0)) := hb1.alloc (by simp only [World.size_alloc]; omega) _
  have hb3 : Below w.heap.size w (((w.alloc (.map #[] 0)).alloc (.map #[] 0)).alloc (.map #[] 0)) := hb2.alloc (by simp only [World.size_alloc]; omega) _
  refine ⟨_, w.heap.size, w.heap.size + 1, w.heap.size + 1 + 1, rfl, ?_, hb3.alloc (by simp only [World.size_alloc]; omega) _⟩
  have h1 := hasMap_made Tryz.prog 31 w
  have h2 := hasMap_made Tryz.prog 31 (w.alloc (.map #[] 0))
  have h3 := hasMap_made Tryz.prog 31 ((w.alloc (.map #[] 0)).alloc (.map #[] 0))
  have keep : ∀ (W0 : World) (o : Obj) (i : Nat), i < W0.heap.size → (W0.alloc o).heap[i]? = W0.heap[i]? := fun W0 o i hi => (MapKept.heap_alloc W0 o).2 i hi
  refine ⟨?_, ?_, ?_, ?_, by simp, by simp, by simp, fun n => by simp [cntOf, behindN], ⟨?_, ?_, ?_, ?_⟩, ⟨?_, ?_, ?_⟩, by simp⟩
  · have := (MapKept.heap_alloc (((w.alloc (.map #[] 0)).alloc (.map #[] 0)).alloc (.map #[] 0)) (.cells #[.map (some w.heap.size), .map (some (w.heap.size + 1)), .map (some (w.heap.size + 1 + 1))] 80)).1
    simpa using this
  · exact h1.of_block ((keep _ _ _ (by simp only [World.size_alloc]; omega)).trans ((keep _ _ _ (by simp only [World.size_alloc]; omega)).trans (keep _ _ _ (by simp only [World.size_alloc]; omega))))
  · have := h2.of_block ((keep _ (.cells #[.map (some w.heap.size), .map (some (w.heap.size + 1)), .map (some (w.heap.size + 1 + 1))] 80) _ (by simp only [World.size_alloc]; omega)).trans (keep _ (.map #[] 0) _ (by simp only [World.size_alloc]; omega)))
    simpa using this
  · have := h3.of_block (keep _ (.cells #[.map (some w.heap.size), .map (some (w.heap.size + 1)), .map (some (w.heap.size + 1 + 1))] 80) _ (by simp only [World.size_alloc]; omega))
    simpa using this
  all_goals omega

set_option maxRecDepth 100000 in
set_option maxHeartbeats 8000000 in
theorem lacks_any (b mo mw mt : Nat) (B : Nat → Prop) (O W : List E3) (T : List (Nm × Nat)) (o : OpV) (ho : o.Ok) (p : Option Addr) (c : Nat) (w : World) (h : DagSet w b mo mw mt B O W T) (hs : Src w p (pcs o.preds)) :
    Calls Tryz.prog 58 #[.pointer (some ⟨b, 0, none⟩), .agg (o.cs p c).toArray] w fun e w' => ∃ q cq, e = .returned (.slice q (o.preds.filter fun n => !hasN (O.map E3.ent) n).length cq) ∧ Below w.heap.size w w' := by
  obtain ⟨i0, hi, hz0, hz1, hz2⟩ := info_parts idInfo3
  obtain ⟨hz, hid⟩ := info_two idInfo
  obtain ⟨hzo, hio⟩ := info_two opZero
  have HZ := Lib.hid hz
  have HI := Lib.hid hid
  have HZO := Lib.hid hzo
  have HIO := Lib.hid hio
  have HD := Lib.hid ho
  have HS := Lib.hid hs
  have HH := Lib.hid h
  have hat : cellsAt (w.alloc (.cells (o.cs p c).toArray 46)) w.heap.size 0 (o.cs p c) := by simpa using cellsAt_new w (o.cs p c).toArray 46
  have HA := Lib.hid hat
  have h37 := (OpV.cs_at ho hat).2.2
  have H37 := Lib.hid h37
  have hn := ho.len
  clear hat ho hs h h37 hz hid hzo hio
  obtain ⟨w1, hw1⟩ : ∃ w1, w1 = w.alloc (.cells (o.cs p c).toArray 46) := ⟨_, rfl⟩
  go_enter Tryz.func58, Tryz.ntmps58
  go_upto_region 2 with (first | (refine wpList_boxAgg _ rfl 46 _ rfl (o.cs p c).toArray (by rfl) ?_))
  rw [← hw1] at HA H37 ⊢
  have hb1 : Below w.heap.size w w1 := by rw [hw1]; exact (Below.refl _ w).alloc (Nat.le_refl _) _
  have hlt : w.heap.size < w1.heap.size := by rw [hw1]; simp
  have HB1 := Lib.hid hb1
  have HS1 := Lib.hid (HS.out.below hb1 (Nat.le_refl _))
  have HH1 := Lib.hid (HH.out.under hb1)
  clear hw1 hb1
  have hcell := H37.out
  go_wp2_with fail
  clear hcell
  go_loopw [5, 13] (fun v x wr => ∃ (n : Nat) (L : List Nm), n ≤ o.preds.length ∧ x = .int .i64 n ∧ L.length ≤ n ∧ Hid (∀ y ∈ L, y.length = 32) ∧ Hid (L = (o.preds.take n).filter fun n => !hasN (O.map E3.ent) n) ∧ Hid (Owns wr w1.heap.size 31 32 v L.length (pcs L)) ∧ Hid (Below w1.heap.size w1 wr)) (fun _ x _ => o.preds.length - (intOf x).toNat)
  case atStart => exact ⟨0, [], by omega, rfl, by simp, Lib.hid (by simp), Lib.hid rfl, Lib.hid (Owns.nil _ _ _ _), Lib.hid (Below.refl _ _)⟩
  case round =>
    obtain ⟨n, L, hn1, rfl, hlen, h32, hL, hown, hbr⟩ := hrel
    have hszr := hbr.out.size
    by_cases hlt2 : n < o.preds.length
    · obtain ⟨x, g, off, hx1, hx2, hx3, rfl, hx4⟩ := pred_at HS1.out.at_ HD.out.ids hlt2
      have hg := bcs_at_lt hx4 hx3
      have hcx : cellsAt wr g (off + n * 32) (bcs x) := hx4.of_block (hbr.out.block _ hg)
      have HX := Lib.hid hcx
      have HX2 := Lib.hid hx2
      have HX3 := Lib.hid hx3
      have HZX := Lib.hid (show (fillB [] 32).size = (bcs x).toArray.size by rw [show (bcs x).toArray.size = (bcs x).length from rfl, bcs_length, hx3]; rfl)
      clear hx1 hx2 hx3 hx4 hcx
      go_upto_region 5 with (first
        | (refine wpList_loadAgg _ rfl 31 _ rfl _ Tryz.underlying31 rfl g (off + n * 32) (by rfl) (bcs x) (by rw [HI.out, bcs_length, HX3.out]) HX.out ?_)
        | (refine wpList_allocZ _ rfl 31 rfl _ HZ.out ?_)
        | (refine wpList_storeNew _ wr rfl 31 _ _ rfl (fillB [] 32) rfl (by rfl) (bcs x).toArray (by rfl) (by rw [HI.out, List.size_toArray, bcs_length, HX3.out]) HZX.out (by simpa using bcs_one x) ?_))
      obtain ⟨w2, hw2⟩ : ∃ w2, w2 = wr.alloc (.cells (bcs x).toArray 31) := ⟨_, rfl⟩
      rw [← hw2]
      have hb2 : Below wr.heap.size wr w2 := by rw [hw2]; exact (Below.refl _ wr).alloc (Nat.le_refl _) _
      have hx2' : cellsAt w2 wr.heap.size 0 (bcs x) := by rw [hw2]; simpa using cellsAt_new wr (bcs x).toArray 31
      have hz2' : w2.heap.size = wr.heap.size + 1 := by rw [hw2]; simp
      have HX5 := Lib.hid hx2'
      have HB2 := Lib.hid (hbr.out.trans (hb2.mono (by omega)))
      have hown2 := Lib.hid (hown.out.under hb2)
      obtain ⟨N2, hN2, hN3⟩ : ∃ n, w2.heap.size ≤ n ∧ n ≤ w2.heap.size := ⟨_, Nat.le_refl _, Nat.le_refl _⟩
      clear hw2 hb2 hx2'
      have HH2 := Lib.hid (HH1.out.under HB2.out)
      refine wp_region_noPanic ?_
      refine wp_region_till 11 (fun w' => Below N2 w2 w') (by kernel_rfl) (by kernel_rfl) ?_
      obtain ⟨wA, hwA⟩ : ∃ wA, wA = w2.drew := ⟨_, rfl⟩
      have hSA : Below N2 w2 wA := by rw [hwA]; exact (Below.refl N2 w2).drew
      rw [← hwA]
      have HSA := Lib.hid hSA
      have hzA : wA.heap.size = w2.heap.size := by rw [hwA]; rfl
      clear hwA hSA
      obtain ⟨bx, hbx⟩ : ∃ bx, bx = hasN (O.map E3.ent) x := ⟨_, rfl⟩
      obtain ⟨V, hV⟩ : ∃ V, V = valAt O x := ⟨_, rfl⟩
      have HLK := Lib.hid (show ∀ w', Below N2 w2 w' → (Instr.lookup 78 (.map (some mo)) (idv x) true).run Tryz.prog w' = .ok (.tuple #[.agg V.toArray, .bool bx]) w' from fun w' hw' => by
        rw [hbx, hV]
        exact (HH2.out.below hw' hN2).ops.look3 HX3.out true)
      have HV1 := Lib.hid (show V.length = 38 by rw [hV]; exact valAt_length HH2.out.okO x)
      have HV2 := Lib.hid (show ∀ u ∈ V, u.oneCell' = true by rw [hV]; exact valAt_one O x)
      have HV3 := Lib.hid (show 38 = V.toArray.size by rw [List.size_toArray, HV1.out])
      have HBX := Lib.hid hbx
      clear hbx hV
      go_simp
      refine Till.pure 0 rfl rfl (by kernel_rfl) (NoPanic.noFrame _) HSA.out ?_
      go_big_quiet_step (fail)
      refine wpQuiet_nil ?_
      refine Till.pure 1 rfl rfl (by kernel_rfl) (NoPanic.noFrame _) HSA.out ?_
      go_big_quiet_step (fail)
      refine wpQuiet_nil ?_
      refine Till.pure 2 rfl rfl (by kernel_rfl) (NoPanic.noFrame _) HSA.out ?_
      go_big_quiet_step (fail)
      refine wpQuiet_nil ?_
      refine Till.load 3 78 _ ⟨b, 0, none⟩ (.map (some mo)) rfl rfl rfl rfl (by kernel_rfl) (NoPanic.noFrame _) HSA.out (fun w' hw' => run_loadVar_one Tryz.underlying78 rfl (HH2.out.below hw' hN2).c0) ?_
      go_simp
      refine Till.load 4 31 _ ⟨wr.heap.size, 0, none⟩ (idv x) rfl rfl rfl rfl (by kernel_rfl) (NoPanic.noFrame _) HSA.out (fun w' hw' => run_loadAgg Tryz.underlying31 rfl (by rw [HI.out, bcs_length, HX3.out]) (HX5.out.of_block (hw'.block _ (by omega)))) ?_
      go_simp
      refine Till.look 5 78 _ _ true (.map (some mo)) (idv x) _ rfl rfl rfl (by rfl) (by rfl) (by kernel_rfl) (NoPanic.noFrame _) HSA.out HLK.out ?_
      go_simp
      refine Till.pure 6 rfl rfl (by kernel_rfl) (NoPanic.noFrame _) HSA.out ?_
      go_big_quiet_step (fail)
      refine wpQuiet_nil ?_
      refine Till.pure 7 rfl rfl (by kernel_rfl) (NoPanic.noFrame _) HSA.out ?_
      go_big_quiet_step (fail)
      refine wpQuiet_nil ?_
      refine Till.pure 8 rfl rfl (by kernel_rfl) (NoPanic.noFrame _) HSA.out ?_
      go_big_quiet_step (fail)
      refine wpQuiet_nil ?_
      refine Till.act 9 rfl rfl (by kernel_rfl) rfl ?_
      intro K hK
      refine wp_allocZ _ 46 rfl _ HZO.out ?_
      refine hK _ _ (HSA.out.alloc (by omega) _) ?_
      clear hK K
      refine Till.act 10 rfl rfl (by kernel_rfl) rfl ?_
      intro K hK
      refine wp_storeNew _ wA 46 _ _ rfl _ rfl (by rfl) V.toArray (by rfl) (by rw [opInfo, List.size_toArray, HV1.out]) HV3.out (by simpa using HV2.out) ?_
      refine hK _ _ (HSA.out.alloc (by omega) _) ?_
      clear hK K
      refine Till.tail _ rfl rfl (by kernel_rfl) (by kernel_rfl) ?_
      obtain ⟨w3, hw3⟩ : ∃ w3, w3 = wA.alloc (.cells V.toArray 46) := ⟨_, rfl⟩
      have hb3 : Below w2.heap.size w2 w3 := by rw [hw3]; exact (HSA.out.mono hN2).alloc (by omega) _
      have hz3 : w3.heap.size = wr.heap.size + 2 := by rw [hw3, World.size_alloc]; omega
      rw [← hw3]
      have hcx := Lib.hid (HX5.out.of_block (hb3.block _ (by omega)))
      have hown3 := Lib.hid (hown2.out.under hb3)
      have hbr3 := Lib.hid (HB2.out.trans (hb3.mono (by omega)))
      clear hw3 hb3
      cases bx with
      | true =>
        go_wp2
        refine NoPanic.normal ?_
        go_wp2
        go_roundw
        case rel => exact ⟨n + 1, L, by omega, by go_num, by omega, h32, Lib.hid (by rw [HX2.out, List.filter_append, hL.out]; simp [← HBX.out]), hown3, hbr3⟩
        case measure => simp [intOf] <;> omega
      | false =>
        go_wp2
        refine NoPanic.normal ?_
        go_wp2_with (first
          | (refine wpList_loadAgg _ rfl 31 _ rfl _ Tryz.underlying31 rfl wr.heap.size 0 (by rfl) (bcs x) (by rw [HI.out, bcs_length, HX3.out]) hcx.out ?_)
          | (refine wpList_buildOne _ rfl 28 _ rfl 31 32 _ Tryz.underlying28 HI.out (by omega) (by omega) HZ.out (bcs x).toArray (by rfl) (by rw [List.size_toArray, bcs_length, HX3.out]) ?_)
          | (at_builtin; refine wpList_append_G rfl _ _ 28 rfl w1.heap.size 31 i0 _ 32 32 Tryz.underlying28 hi hz0 hz1 hz2 (by rfl) (by omega) u5 L.length (pcs L) (by rfl) (hown3.out.alloc _) (some ⟨w3.heap.size, 0, none⟩) 1 1 (bcs x) (by rfl) (by rw [bcs_length, HX3.out]) (src_new w3 (bcs x) 31) (fun a e => by cases e; rfl) (bcs_one x) (by unfold maxLen; omega) (by omega) (by rw [World.size_alloc]; omega) ?_; intro v4 w4 hown4 hg4 hs4))
        have hb4 : Below w1.heap.size w1 w4 := below_grown (hbr3.out.alloc (by omega) _) hg4 (hown3.out.alloc _) (by rw [World.size_alloc]; omega)
        rw [show pcs L ++ bcs x = pcs (L ++ [x]) by simp [pcs], show L.length + 1 = (L ++ [x]).length by simp] at hown4
        go_roundw
        case rel => exact ⟨n + 1, L ++ [x], by omega, by go_num, by simp; omega, Lib.hid (fun y hy => by rcases List.mem_append.1 hy with hy | hy; exact h32.out y hy; rw [List.mem_singleton.1 hy]; exact HX3.out), Lib.hid (by rw [HX2.out, List.filter_append, hL.out]; simp [← HBX.out]), Lib.hid hown4, Lib.hid hb4⟩
        case measure => simp [intOf] <;> omega
    · obtain rfl : n = o.preds.length := by omega
      obtain ⟨q, cq, rfl⟩ := hown.out.form
      go_wp2
      go_ret
      refine ⟨q, cq, ?_, HB1.out.trans (hbr.out.mono (by omega))⟩
      have := hL.out
      rw [List.take_length] at this
      rw [← this]
      rfl
end Go.Proofs.YtfoifdhcelcgiaaGreatDoor

/- How deep an operation stands in a set. -/
namespace Go.Proofs.YtfoifdhcelcgiaaGreatDoor
open Go Go.RowKit

section
variable {P : Program}
theorem run_fieldOne {w : World} {t : TypeId} {fs : Array Field} {i : Nat} {f : Field} {d : TypeDesc} {cs : List Value} {v : Value} (ht : P.underlying t = some (.struct fs)) (hf : fs[i]? = some f) (hu : P.underlying f.type = some d)
    (hd : (match d with | .struct _ | .array _ _ => true | _ => false) = false) (hc : cs[f.offset]? = some v) : (Instr.field t (.agg cs.toArray) i).run P w = .ok v w := by
  unfold Instr.field
  simp only [Sem.run_bind, run_underlying ht, Result.andThen_ok, hf, asAgg, Sem.run_pure, part]
  unfold isAgg
  simp only [Sem.run_bind, run_underlying hu, Result.andThen_ok]
  cases d <;> simp_all [Result.andThen]
theorem Till.field {md : Region.Mode} {n : Nat} {S : World → Prop} {ops : Array Oper} {Q : Exit → Act → World → Prop} (i : Nat) {fuel : Nat} {oi : Oper} {listed : Array Bool} {a : Act} {w : World} (t : TypeId) (x : Operand) (k : Nat) (xv v : Value) {rest : List Oper} (hi0 : ops.toList.drop i = oi :: rest) (hop : oi.op = .field t x k) (hw : Region.wanted oi (yielded ops a.tmps) = true)
    (hx : a.eval x = xv) (hB : mayB md ops n i listed = true) (hQ : NoFrame Q) (hS : S w) (hl : ∀ w', (Instr.field t xv k).run P w' = .ok v w')
    (h : Till P md ops Q S n fuel (listed.setIfInBounds i true) (a.put oi.dst v) w) : Till P md ops Q S n (fuel + 1) listed a w :=
  Till.take (v := v) (at_drop hi0) hB hQ hS (.inl ⟨hw, fun w' _ => by
    unfold execOp
    simp only [hop, hx, Sem.run_bind, Sem.run_pure, Result.andThen_ok, hl w']⟩) h
end

theorem run_depthOf {V : List Value} {v : Value} (h : V[36]? = some v) (w : World) : (Instr.field 46 (.agg V.toArray) 2).run Tryz.prog w = .ok v w :=
  run_fieldOne Tryz.underlying46 rfl Tryz.underlying3 rfl h

set_option maxRecDepth 100000 in
set_option maxHeartbeats 8000000 in
theorem depth_any (b mo mw mt : Nat) (B : Nat → Prop) (O W : List E3) (T : List (Nm × Nat)) (o : OpV) (ho : o.Ok) (p : Option Addr) (c : Nat) (w : World) (h : DagSet w b mo mw mt B O W T) (hs : Src w p (pcs o.preds)) :
    Calls Tryz.prog 86 #[.pointer (some ⟨b, 0, none⟩), .agg (o.cs p c).toArray] w fun e w' => e = .returned (.int .i64 (depthOf (O.map E3.ent) o)) ∧ Below w.heap.size w w' := by
  obtain ⟨hz, hid⟩ := info_two idInfo
  have HZ := Lib.hid hz
  have HI := Lib.hid hid
  have HD := Lib.hid ho
  have HS := Lib.hid hs
  have HH := Lib.hid h
  have hat : cellsAt (w.alloc (.cells (o.cs p c).toArray 46)) w.heap.size 0 (o.cs p c) := by simpa using cellsAt_new w (o.cs p c).toArray 46
  have HA := Lib.hid hat
  have h37 := (OpV.cs_at ho hat).2.2
  have H37 := Lib.hid h37
  have hn := ho.len
  clear hat ho hs h h37 hz hid
  obtain ⟨w1, hw1⟩ : ∃ w1, w1 = w.alloc (.cells (o.cs p c).toArray 46) := ⟨_, rfl⟩
  go_enter Tryz.func86, Tryz.ntmps86
  go_upto_region 2 with (first | (refine wpList_boxAgg _ rfl 46 _ rfl (o.cs p c).toArray (by rfl) ?_))
  rw [← hw1] at HA H37 ⊢
  have hb1 : Below w.heap.size w w1 := by rw [hw1]; exact (Below.refl _ w).alloc (Nat.le_refl _) _
  have hlt : w.heap.size < w1.heap.size := by rw [hw1]; simp
  have HB1 := Lib.hid hb1
  have HS1 := Lib.hid (HS.out.below hb1 (Nat.le_refl _))
  have HH1 := Lib.hid (HH.out.under hb1)
  clear hw1 hb1
  have hcell := H37.out
  go_wp2_with fail
  clear hcell
  go_loopw [5, 11] (fun v x wr => ∃ (n : Nat) (D : Int), n ≤ o.preds.length ∧ x = .int .i64 n ∧ v = .int .i64 D ∧ Hid (D = deepL (O.map E3.ent) (o.preds.take n)) ∧ Hid (Below w1.heap.size w1 wr)) (fun _ x _ => o.preds.length - (intOf x).toNat)
  case atStart => exact ⟨0, 0, by omega, rfl, rfl, Lib.hid rfl, Lib.hid (Below.refl _ _)⟩
  case round =>
    obtain ⟨n, D, hn1, rfl, rfl, hL, hbr⟩ := hrel
    have hszr := hbr.out.size
    by_cases hlt2 : n < o.preds.length
    · obtain ⟨x, g, off, hx1, hx2, hx3, rfl, hx4⟩ := pred_at HS1.out.at_ HD.out.ids hlt2
      have hg := bcs_at_lt hx4 hx3
      have hcx : cellsAt wr g (off + n * 32) (bcs x) := hx4.of_block (hbr.out.block _ hg)
      have HX := Lib.hid hcx
      have HX2 := Lib.hid hx2
      have HX3 := Lib.hid hx3
      have HZX := Lib.hid (show (fillB [] 32).size = (bcs x).toArray.size by rw [show (bcs x).toArray.size = (bcs x).length from rfl, bcs_length, hx3]; rfl)
      clear hx1 hx2 hx3 hx4 hcx
      go_upto_region 5 with (first
        | (refine wpList_loadAgg _ rfl 31 _ rfl _ Tryz.underlying31 rfl g (off + n * 32) (by rfl) (bcs x) (by rw [HI.out, bcs_length, HX3.out]) HX.out ?_)
        | (refine wpList_allocZ _ rfl 31 rfl _ HZ.out ?_)
        | (refine wpList_storeNew _ wr rfl 31 _ _ rfl (fillB [] 32) rfl (by rfl) (bcs x).toArray (by rfl) (by rw [HI.out, List.size_toArray, bcs_length, HX3.out]) HZX.out (by simpa using bcs_one x) ?_))
      obtain ⟨w2, hw2⟩ : ∃ w2, w2 = wr.alloc (.cells (bcs x).toArray 31) := ⟨_, rfl⟩
      rw [← hw2]
      have hb2 : Below wr.heap.size wr w2 := by rw [hw2]; exact (Below.refl _ wr).alloc (Nat.le_refl _) _
      have hx2' : cellsAt w2 wr.heap.size 0 (bcs x) := by rw [hw2]; simpa using cellsAt_new wr (bcs x).toArray 31
      have hz2' : w2.heap.size = wr.heap.size + 1 := by rw [hw2]; simp
      have HX5 := Lib.hid hx2'
      have HB2 := Lib.hid (hbr.out.trans (hb2.mono (by omega)))
      obtain ⟨N2, hN2, hN3⟩ : ∃ n, w2.heap.size ≤ n ∧ n ≤ w2.heap.size := ⟨_, Nat.le_refl _, Nat.le_refl _⟩
      clear hw2 hb2 hx2'
      have HH2 := Lib.hid (HH1.out.under HB2.out)
      refine wp_region_noPanic ?_
      refine wp_region_till 8 (fun w' => Below N2 w2 w') (by kernel_rfl) (by kernel_rfl) ?_
      obtain ⟨wA, hwA⟩ : ∃ wA, wA = w2.drew := ⟨_, rfl⟩
      have hSA : Below N2 w2 wA := by rw [hwA]; exact (Below.refl N2 w2).drew
      rw [← hwA]
      have HSA := Lib.hid hSA
      have hzA : wA.heap.size = w2.heap.size := by rw [hwA]; rfl
      clear hwA hSA
      obtain ⟨V, hV⟩ : ∃ V, V = valAt O x := ⟨_, rfl⟩
      obtain ⟨E, hE⟩ : ∃ E, E = depAt (O.map E3.ent) x := ⟨_, rfl⟩
      have HLK := Lib.hid (show ∀ w', Below N2 w2 w' → (Instr.lookup 78 (.map (some mo)) (idv x) false).run Tryz.prog w' = .ok (.agg V.toArray) w' from fun w' hw' => by
        rw [hV]
        exact (HH2.out.below hw' hN2).ops.look3 HX3.out false)
      have HV1 := Lib.hid (show V[36]? = some (.int .i64 E) by rw [hV, hE]; exact valAt_depth HH2.out.okO x)
      have HE := Lib.hid hE
      clear hE hV
      go_simp
      refine Till.pure 0 rfl rfl (by kernel_rfl) (NoPanic.noFrame _) HSA.out ?_
      go_big_quiet_step (fail)
      refine wpQuiet_nil ?_
      refine Till.pure 1 rfl rfl (by kernel_rfl) (NoPanic.noFrame _) HSA.out ?_
      go_big_quiet_step (fail)
      refine wpQuiet_nil ?_
      refine Till.pure 2 rfl rfl (by kernel_rfl) (NoPanic.noFrame _) HSA.out ?_
      go_big_quiet_step (fail)
      refine wpQuiet_nil ?_
      refine Till.pure 3 rfl rfl (by kernel_rfl) (NoPanic.noFrame _) HSA.out ?_
      go_big_quiet_step (fail)
      refine wpQuiet_nil ?_
      refine Till.load 4 78 _ ⟨b, 0, none⟩ (.map (some mo)) rfl rfl rfl rfl (by kernel_rfl) (NoPanic.noFrame _) HSA.out (fun w' hw' => run_loadVar_one Tryz.underlying78 rfl (HH2.out.below hw' hN2).c0) ?_
      go_simp
      refine Till.load 5 31 _ ⟨wr.heap.size, 0, none⟩ (idv x) rfl rfl rfl rfl (by kernel_rfl) (NoPanic.noFrame _) HSA.out (fun w' hw' => run_loadAgg Tryz.underlying31 rfl (by rw [HI.out, bcs_length, HX3.out]) (HX5.out.of_block (hw'.block _ (by omega)))) ?_
      go_simp
      refine Till.look 6 78 _ _ false (.map (some mo)) (idv x) _ rfl rfl rfl (by rfl) (by rfl) (by kernel_rfl) (NoPanic.noFrame _) HSA.out HLK.out ?_
      go_simp
      refine Till.field 7 46 _ 2 (.agg V.toArray) (.int .i64 E) rfl rfl rfl (by rfl) (by kernel_rfl) (NoPanic.noFrame _) HSA.out (run_depthOf HV1.out) ?_
      go_simp
      refine Till.tail _ rfl rfl (by kernel_rfl) (by kernel_rfl) ?_
      go_wp2
      refine NoPanic.normal ?_
      go_wp2
      go_roundw
      case rel => exact ⟨n + 1, max D E, by omega, by go_num, by simp, Lib.hid (by rw [HX2.out, hL.out, HE.out]; simp [deepL, List.foldl_append]), Lib.hid (HB2.out.trans (HSA.out.mono (by omega)))⟩
      case measure => simp [intOf] <;> omega
    · obtain rfl : n = o.preds.length := by omega
      go_wp2
      go_ret
      have := hL.out
      rw [List.take_length] at this
      exact ⟨by rw [this, depthOf, IntWalk.i64_left]; rfl, HB1.out.trans (hbr.out.mono (by omega))⟩
end Go.Proofs.YtfoifdhcelcgiaaGreatDoor

/- An operation is put into a set. -/
namespace Go.Proofs.YtfoifdhcelcgiaaGreatDoor
open Go Go.RowKit

/-- one more that stands behind n -/
def bumpT (T : List (Nm × Nat)) (n : Nm) : List (Nm × Nat) := (n, cntOf T n + 1) :: T.filter fun x => decide (x.1 ≠ n)
theorem bumpT_cnt (T : List (Nm × Nat)) (n m : Nm) : cntOf (bumpT T n) m = cntOf T m + if m = n then 1 else 0 := by
  unfold bumpT
  by_cases h : m = n
  · subst h
    simp [cntOf]
  · have h1 : ¬ n = m := fun e => h e.symm
    rw [if_neg h]
    unfold cntOf
    rw [List.find?_cons]
    simp only [h1, decide_false]
    rw [List.find?_filter]
    have : T.find? (fun x => decide (x.1 ≠ n) && decide (x.1 = m)) = T.find? (fun x => decide (x.1 = m)) := by
      congr 1
      funext x
      by_cases hx : x.1 = m
      · have : ¬ x.1 = n := fun e => h (hx.symm.trans e)
        simp [hx, h]
      · simp [hx]
    simp only [Nat.add_zero]
    simpa using congrArg (fun o : Option (Nm × Nat) => (o.map (·.2)).getD 0) this
theorem restAt_T {T : List (Nm × Nat)} (hd : (T.map (·.1)).Nodup) (n : Nm) : restAt (T.map tkv) (idv n) ((T.filter fun x => decide (x.1 ≠ n)).map tkv) := by
  induction T with
  | nil => exact .inr ⟨List.Perm.refl _, by simp⟩
  | cons a r ih =>
    simp only [List.map_cons, List.nodup_cons] at hd
    by_cases h : a.1 = n
    · refine .inl ⟨.int .i64 a.2, ?_⟩
      have hr : r.filter (fun x => decide (x.1 ≠ n)) = r := List.filter_eq_self.2 (fun x hx => by
        have : x.1 ≠ n := fun e => hd.1 (by rw [h, ← e]; exact List.mem_map.2 ⟨x, hx, rfl⟩)
        simp [this])
      rw [List.filter_cons, if_neg (by simp [h]), hr, List.map_cons]
      unfold tkv
      rw [h]
    · rw [List.filter_cons, if_pos (by simp [h]), List.map_cons, List.map_cons]
      rcases ih hd.2 with ⟨v, hv⟩ | ⟨hp, hn⟩
      · exact .inl ⟨v, (hv.cons _).trans (List.Perm.swap _ _ _)⟩
      · refine .inr ⟨hp.cons _, fun v hv => ?_⟩
        rcases List.mem_cons.1 hv with hv | hv
        · exact h (idv_inj (Prod.mk.inj hv).1.symm)
        · exact hn v hv
theorem restAt_new {O : List E3} {n : Nm} (h : n ∉ O.map (·.n)) : restAt (O.map E3.kv) (idv n) (O.map E3.kv) :=
  .inr ⟨List.Perm.refl _, fun v hv => by
    obtain ⟨e, he, hkv⟩ := List.mem_map.1 hv
    exact h (List.mem_map.2 ⟨e, he, idv_inj (Prod.mk.inj hkv).1⟩)⟩
theorem tkv_nodup {T : List (Nm × Nat)} (h : ((T.map tkv).map (·.1)).Nodup) : (T.map (·.1)).Nodup := by
  rw [List.map_map] at h
  have h4 : (T.map ((·.1) ∘ tkv)) = (T.map (·.1)).map idv := by rw [List.map_map]; rfl
  rw [h4] at h
  exact List.Pairwise.of_map idv (fun a b h e => h (congrArg idv e)) h

def bumps (T : List (Nm × Nat)) (ps : List Nm) : List (Nm × Nat) := ps.foldl bumpT T
theorem bumps_cnt : ∀ (ps : List Nm) (T : List (Nm × Nat)) (m : Nm), cntOf (bumps T ps) m = cntOf T m + ps.count m
  | [], _, _ => by simp [bumps]
  | p :: ps, T, m => by
    have := bumps_cnt ps (bumpT T p) m
    rw [show bumps T (p :: ps) = bumps (bumpT T p) ps from rfl, this, bumpT_cnt, List.count_cons]
    by_cases h : m = p
    · subst h; simp; omega
    · have : (p == m) = false := by simpa using fun e => h e.symm
      rw [if_neg h, this]
      simp

theorem cell_eq {w w' : World} {b : Nat} (h : w'.heap[b]? = w.heap[b]?) (i : Nat) : w'.cell? ⟨b, i, none⟩ = w.cell? ⟨b, i, none⟩ := World.cell?_of_block (a := ⟨b, i, none⟩) h
theorem hasMap.box_ne {P : Program} {k t : TypeId} {w : World} {m b : Nat} {L : List (Value × Value)} {cs : Array Value} {fz : Nat × Nat} (h : hasMap P k w m L) (hb : w.heap[b]? = some (.cells cs t fz)) : b ≠ m := fun e => by
  obtain ⟨es, ck, h2, _⟩ := h
  rw [← e, hb] at h2
  cases h2
theorem E3.Ok.ok' {w w' : World} {B S : Nat → Prop} {e : E3} (h : e.Ok w B) (hk : Keeps S w w') (hs : ∀ i off, e.p = some ⟨i, off, none⟩ → e.o.preds ≠ [] → ¬ S i) : e.Ok w' B :=
  ⟨h.ok, h.len, h.src.of_blocks hk.size (fun i off e1 hlt hne => hk.block i hlt (hs i off e1 (pcs_ne hne))), h.at_⟩
def threeB (a b c : Nat) : Nat → Prop := fun i => i = a ∨ i = b ∨ i = c

def twoB (a b : Nat) : Nat → Prop := fun i => i = a ∨ i = b
theorem bumpT_32 {T : List (Nm × Nat)} {n : Nm} (h : ∀ x ∈ T, x.1.length = 32) (hn : n.length = 32) : ∀ x ∈ bumpT T n, x.1.length = 32 := fun x hx => by
  rcases List.mem_cons.1 hx with rfl | hx
  · exact hn
  · exact h x (List.mem_filter.1 hx).1
theorem bumps_snoc (T : List (Nm × Nat)) (ps : List Nm) (p : Nm) : bumps T (ps ++ [p]) = bumpT (bumps T ps) p := by simp [bumps]

set_option maxRecDepth 100000 in
set_option maxHeartbeats 16000000 in
theorem put_any (b mo mw mt : Nat) (B : Nat → Prop) (O W : List E3) (T : List (Nm × Nat)) (n : Nm) (hn32 : n.length = 32) (o : OpV) (ho : o.Ok) (p : Option Addr) (c : Nat) (w : World) (h : DagSet w b mo mw mt B O W T) (hs : Src w p (pcs o.preds))
    (hp : ∀ i off, p = some ⟨i, off, none⟩ → (o.preds ≠ [] → B i) ∧ i ≠ b ∧ i ≠ mo ∧ i ≠ mw ∧ i ≠ mt) (hnew : n ∉ O.map (·.n)) (hcnt : ∀ m, behindN (O.map E3.ent) m ≤ 1000000000) :
    Calls Tryz.prog 60 #[.pointer (some ⟨b, 0, none⟩), idv n, .agg (o.cs p c).toArray] w fun e w' =>
      (o.depth = depthOf (O.map E3.ent) o ∧ e = .returned (.bool true) ∧ DagSet w' b mo mw mt B (O ++ [⟨n, o, p, c⟩]) W (bumps T o.preds) ∧ Keeps (twoB mo mt) w w') ∨
      (o.depth ≠ depthOf (O.map E3.ent) o ∧ e = .returned (.bool false) ∧ Below w.heap.size w w') := by
  obtain ⟨hz, hid⟩ := info_two idInfo
  have HZ := Lib.hid hz
  have HI := Lib.hid hid
  have HD := Lib.hid ho
  have HS := Lib.hid hs
  have HH := Lib.hid h
  have HP := Lib.hid hp
  have HN := Lib.hid hn32
  have HNEW := Lib.hid hnew
  have HCNT := Lib.hid hcnt
  have HC := Lib.hid (OpV.cs_length ho p c)
  have hlen := ho.len
  obtain ⟨w1, hw1⟩ : ∃ w1, w1 = (w.alloc (.cells (bcs n).toArray 31)).alloc (.cells (o.cs p c).toArray 46) := ⟨_, rfl⟩
  have hb1 : Below w.heap.size w w1 := by rw [hw1]; exact ((Below.refl _ w).alloc (Nat.le_refl _) _).alloc (by simp) _
  have hat : cellsAt w1 (w.heap.size + 1) 0 (o.cs p c) := by
    rw [hw1]
    have := cellsAt_new (w.alloc (.cells (bcs n).toArray 31)) (o.cs p c).toArray 46
    simpa using this
  have hnt : cellsAt w1 w.heap.size 0 (bcs n) := by
    rw [hw1]
    exact cellsAt.of_block (by simpa using cellsAt_new w (bcs n).toArray 31) ((MapKept.heap_alloc _ _).2 _ (by simp))
  have hz1 : w1.heap.size = w.heap.size + 2 := by rw [hw1]; simp
  have HA := Lib.hid hat
  have HNT := Lib.hid hnt
  have HB1 := Lib.hid hb1
  have HS1 := Lib.hid (hs.below hb1 (Nat.le_refl _))
  have HH1 := Lib.hid (h.under hb1)
  have hblt := h.lt
  have hmo := h.ops.lt
  have hmt := h.out.lt
  have hne := h.ne.2.1
  clear ho hs h hp hn32 hnew hcnt hat hnt hb1 hz hid
  go_enter Tryz.func60, Tryz.ntmps60
  go_upto_region 1 with (first
    | (refine wpList_boxAgg _ rfl 31 _ rfl (bcs n).toArray (by rfl) ?_)
    | (refine wpList_boxAgg _ rfl 46 _ rfl (o.cs p c).toArray (by rfl) ?_))
  rw [show (w.alloc (.cells (bcs n).toArray 31)).alloc (.cells (o.cs p c).toArray 46) = w1 from hw1.symm]
  clear hw1
  obtain ⟨N1, hN1, hN2⟩ : ∃ n, w1.heap.size ≤ n ∧ n ≤ w1.heap.size := ⟨_, Nat.le_refl _, Nat.le_refl _⟩
  obtain ⟨DD, hDD⟩ : ∃ DD, DD = depthOf (O.map E3.ent) o := ⟨_, rfl⟩
  refine wp_region_noPanic ?_
  refine wp_region_till 5 (fun w' => Below N1 w1 w') (by kernel_rfl) (by kernel_rfl) ?_
  obtain ⟨wA, hwA⟩ : ∃ wA, wA = w1.drew := ⟨_, rfl⟩
  have hSA : Below N1 w1 wA := by rw [hwA]; exact (Below.refl N1 w1).drew
  rw [← hwA]
  have HSA := Lib.hid hSA
  clear hwA hSA
  go_simp
  refine Till.pure 0 rfl rfl (by kernel_rfl) (NoPanic.noFrame _) HSA.out ?_
  go_big_quiet_step (fail)
  refine wpQuiet_nil ?_
  refine Till.load 1 3 _ ⟨w.heap.size + 1, 36, none⟩ (.int .i64 o.depth) rfl rfl rfl rfl (by kernel_rfl) (NoPanic.noFrame _) HSA.out (fun w' hw' => run_loadVar_one Tryz.underlying3 rfl (OpV.cs_at HD.out (HA.out.of_block (hw'.block _ (by omega)))).2.1) ?_
  go_simp
  refine Till.pure 2 rfl rfl (by kernel_rfl) (NoPanic.noFrame _) HSA.out ?_
  go_big_quiet_step (fail)
  refine wpQuiet_nil ?_
  refine Till.load 3 46 _ ⟨w.heap.size + 1, 0, none⟩ (.agg (o.cs p c).toArray) rfl rfl rfl rfl (by kernel_rfl) (NoPanic.noFrame _) HSA.out (fun w' hw' => run_loadAgg Tryz.underlying46 rfl (by rw [opInfo, HC.out]) (HA.out.of_block (hw'.block _ (by omega)))) ?_
  go_simp
  refine Till.act 4 rfl rfl (by kernel_rfl) rfl ?_
  intro K hK
  go_wp2_with (first | (go_at_call 86; refine (depth_any b mo mw mt B O W T o HD.out p c wA (HH1.out.below HSA.out hN1) (HS1.out.below HSA.out hN1)).mono ?_; rintro e w2 ⟨rfl, hb2⟩))
  have hzA := HSA.out.size
  refine hK _ _ (HSA.out.trans (hb2.mono (by omega))) ?_
  clear hK K
  have HS2 := Lib.hid (HSA.out.trans (hb2.mono (by omega)))
  have HH2 := Lib.hid (HH1.out.below HS2.out hN1)
  have hz2 := HS2.out.size
  clear hb2
  refine Till.tail _ rfl rfl (by kernel_rfl) (by kernel_rfl) ?_
  rw [← hDD]
  have HDD := Lib.hid hDD
  clear hDD
  by_cases hd : o.depth = DD
  · have hdb : (o.depth != DD) = false := by simp [hd]
    go_wp2
    refine NoPanic.normal ?_
    go_upto_region 3 with fail
    obtain ⟨N2, hN3, hN4⟩ : ∃ n, w2.heap.size ≤ n ∧ n ≤ w2.heap.size := ⟨_, Nat.le_refl _, Nat.le_refl _⟩
    refine wp_region_noPanic ?_
    refine wp_region_till 6 (fun w' => Below N2 w2 w') (by kernel_rfl) (by kernel_rfl) ?_
    obtain ⟨w3, hw3⟩ : ∃ w3, w3 = w2.drew := ⟨_, rfl⟩
    have hS3 : Below N2 w2 w3 := by rw [hw3]; exact (Below.refl N2 w2).drew
    have hz3 : w3.heap.size = w2.heap.size := by rw [hw3]; rfl
    rw [← hw3]
    have HS3 := Lib.hid hS3
    have HA2 := Lib.hid (HA.out.of_block (HS2.out.block _ (by omega)))
    have HN2 := Lib.hid (HNT.out.of_block (HS2.out.block _ (by omega)))
    clear hw3 hS3
    go_simp
    refine Till.pure 0 rfl rfl (by kernel_rfl) (NoPanic.noFrame _) HS3.out ?_
    go_big_quiet_step (fail)
    refine wpQuiet_nil ?_
    refine Till.pure 1 rfl rfl (by kernel_rfl) (NoPanic.noFrame _) HS3.out ?_
    go_big_quiet_step (fail)
    refine wpQuiet_nil ?_
    refine Till.pure 2 rfl rfl (by kernel_rfl) (NoPanic.noFrame _) HS3.out ?_
    go_big_quiet_step (fail)
    refine wpQuiet_nil ?_
    refine Till.load 3 78 _ ⟨b, 0, none⟩ (.map (some mo)) rfl rfl rfl rfl (by kernel_rfl) (NoPanic.noFrame _) HS3.out (fun w' hw' => run_loadVar_one Tryz.underlying78 rfl (HH2.out.below hw' hN3).c0) ?_
    go_simp
    refine Till.load 4 31 _ ⟨w.heap.size, 0, none⟩ (idv n) rfl rfl rfl rfl (by kernel_rfl) (NoPanic.noFrame _) HS3.out (fun w' hw' => run_loadAgg Tryz.underlying31 rfl (by rw [HI.out, bcs_length, HN.out]) (HN2.out.of_block (hw'.block _ (by omega)))) ?_
    go_simp
    refine Till.load 5 46 _ ⟨w.heap.size + 1, 0, none⟩ (.agg (o.cs p c).toArray) rfl rfl rfl rfl (by kernel_rfl) (NoPanic.noFrame _) HS3.out (fun w' hw' => run_loadAgg Tryz.underlying46 rfl (by rw [opInfo, HC.out]) (HA2.out.of_block (hw'.block _ (by omega)))) ?_
    go_simp
    refine Till.tail _ rfl rfl (by kernel_rfl) (by kernel_rfl) ?_
    have HH3 := Lib.hid (HH2.out.below HS3.out hN3)
    obtain ⟨kl, hkey⟩ := idKeyOf n HN.out
    refine wpList_store _ rfl _ _ _ 78 rfl 31 46 idLaw Tryz.underlying78 mo (O.map E3.kv) (by rfl) HH3.out.ops (idv n) (.agg (o.cs p c).toArray) kl (by rfl) (by rfl) hkey ?_
    intro w4 hg4 hs4 hm4
    have hmO : hasMap Tryz.prog 31 w4 mo ((O ++ [(⟨n, o, p, c⟩ : E3)]).map E3.kv) := (hm4 _ (restAt_new HNEW.out)).perm (by
      rw [List.map_append]
      exact (List.perm_append_singleton _ _).symm)
    have HMO := Lib.hid hmO
    have hk4 : Keeps (oneB mo) w w4 := (Keeps.of_below (HB1.out.trans ((HS2.out.mono (by omega)).trans (HS3.out.mono (by omega))))).trans' (Keeps.of_grown hg4 (S := oneB mo) rfl) (fun i hi => .inl hi)
    have HK4 := Lib.hid hk4
    have HT4 := Lib.hid (HH3.out.out.of_block (hg4.block mt (by omega) (fun e => hne (Option.some.inj e).symm)))
    have HC2 := Lib.hid (show w4.cell? ⟨b, 2, none⟩ = some (.map (some mt)) by
      rw [World.cell?_of_block (hg4.block b (by omega) (fun e => by
        have e2 := Option.some.inj e
        have h1 := HH3.out.box
        obtain ⟨es, ck, h2, _⟩ := HH3.out.ops
        rw [← e2, h1] at h2
        cases h2))]
      exact HH3.out.c2)
    have HA4 := Lib.hid (HA2.out.of_block ((hg4.block (w.heap.size + 1) (by omega) (fun e => by have := Option.some.inj e; omega)).trans (HS3.out.block _ (by omega))))
    have HSr4 := Lib.hid (HS.out.of_blocks (w' := w4) hk4.size (fun i off e hlt _ => hk4.block i hlt (fun x => (HP.out i off e).2.2.1 x)))
    have hz4 : w4.heap.size = w2.heap.size := by omega
    clear hm4 hmO hk4 hg4 hs4 hkey
    go_wp2
    refine NoPanic.normal ?_
    have hc37 := (OpV.cs_at HD.out HA4.out).2.2
    go_wp2
    clear hc37
    have hnd : (namesOf ([] : List NOp)).Nodup := by simp [namesOf]
    clear hnd
    go_loopw [24] (fun x wr => ∃ (k : Nat), k ≤ o.preds.length ∧ x = .int .i64 k ∧ Hid (hasMap Tryz.prog 31 wr mt ((bumps T (o.preds.take k)).map tkv)) ∧ Hid (∀ x ∈ bumps T (o.preds.take k), x.1.length = 32) ∧ Hid (Keeps (oneB mt) w4 wr)) (fun x _ => o.preds.length - (intOf x).toNat)
    case atStart => exact ⟨0, by omega, rfl, HT4, Lib.hid HH3.out.okT, Lib.hid (Keeps.refl _ _)⟩
    case round =>
      obtain ⟨k, hk1, rfl, hT, h32, hkr⟩ := hrel
      have hszr := hkr.out.size
      by_cases hlt2 : k < o.preds.length
      · obtain ⟨x, g, off, hx1, hx2, hx3, hpe, hx4⟩ := pred_at HSr4.out.at_ HD.out.ids hlt2
        subst hpe
        have hg := bcs_at_lt hx4 hx3
        have hgm := (HP.out g off rfl).2.2.2.2
        have hcx : cellsAt wr g (off + k * 32) (bcs x) := hx4.of_block (hkr.out.block _ hg hgm)
        have HX := Lib.hid hcx
        have HX2 := Lib.hid hx2
        have HX3 := Lib.hid hx3
        have HZX := Lib.hid (show (fillB [] 32).size = (bcs x).toArray.size by rw [show (bcs x).toArray.size = (bcs x).length from rfl, bcs_length, hx3]; rfl)
        clear hx1 hx2 hx3 hx4 hcx
        go_upto_region 7 with (first
          | (refine wpList_loadAgg _ rfl 31 _ rfl _ Tryz.underlying31 rfl g (off + k * 32) (by rfl) (bcs x) (by rw [HI.out, bcs_length, HX3.out]) HX.out ?_)
          | (refine wpList_allocZ _ rfl 31 rfl _ HZ.out ?_)
          | (refine wpList_storeNew _ wr rfl 31 _ _ rfl (fillB [] 32) rfl (by rfl) (bcs x).toArray (by rfl) (by rw [HI.out, List.size_toArray, bcs_length, HX3.out]) HZX.out (by simpa using bcs_one x) ?_))
        obtain ⟨w5, hw5⟩ : ∃ w5, w5 = wr.alloc (.cells (bcs x).toArray 31) := ⟨_, rfl⟩
        rw [← hw5]
        have hb5 : Below wr.heap.size wr w5 := by rw [hw5]; exact (Below.refl _ wr).alloc (Nat.le_refl _) _
        have hx5 : cellsAt w5 wr.heap.size 0 (bcs x) := by rw [hw5]; simpa using cellsAt_new wr (bcs x).toArray 31
        have hz5 : w5.heap.size = wr.heap.size + 1 := by rw [hw5]; simp
        have HX5 := Lib.hid hx5
        have HK5 := Lib.hid (hkr.out.trans (Keeps.of_below hb5))
        have HT5 := Lib.hid (hT.out.of_block (hb5.block _ hT.out.lt))
        have HC5 := Lib.hid ((cell_eq (HK5.out.block b (by omega) (HH3.out.out.box_ne HH3.out.box)) 2).trans HC2.out)
        obtain ⟨N5, hN5, hN6⟩ : ∃ n, w5.heap.size ≤ n ∧ n ≤ w5.heap.size := ⟨_, Nat.le_refl _, Nat.le_refl _⟩
        clear hw5 hb5 hx5
        obtain ⟨CN, hCN⟩ : ∃ CN, CN = cntOf (bumps T (o.preds.take k)) x := ⟨_, rfl⟩
        have hCNb : (CN : Int) ≤ 9223372036854775806 := by
          have h1 := bumps_cnt (o.preds.take k) T x
          have h2 := HH3.out.cnt x
          have h3 := HCNT.out x
          have h4 : (o.preds.take k).count x ≤ (o.preds.take k).length := List.count_le_length
          have h5 : (o.preds.take k).length ≤ o.preds.length := by rw [List.length_take]; omega
          omega
        have HLK := Lib.hid (show ∀ w', Below N5 w5 w' → (Instr.lookup 70 (.map (some mt)) (idv x) false).run Tryz.prog w' = .ok (.int .i64 CN) w' from fun w' hw' => by
          rw [hCN]
          exact (HT5.out.of_block (hw'.block _ (by have := HT5.out.lt; omega))).lookT HX3.out)
        have HCN := Lib.hid hCN
        clear hCN
        refine wp_region_noPanic ?_
        refine wp_region_till 9 (fun w' => Keeps (oneB mt) w5 w' ∧ (Instr.lookup 70 (.map (some mt)) (idv x) false).run Tryz.prog w' = .ok (.int .i64 CN) w') (by kernel_rfl) (by kernel_rfl) ?_
        obtain ⟨wB, hwB⟩ : ∃ wB, wB = w5.drew := ⟨_, rfl⟩
        have hSB : Below N5 w5 wB := by rw [hwB]; exact (Below.refl N5 w5).drew
        rw [← hwB]
        have HSB := Lib.hid (show Keeps (oneB mt) w5 wB ∧ (Instr.lookup 70 (.map (some mt)) (idv x) false).run Tryz.prog wB = .ok (.int .i64 CN) wB from ⟨Keeps.of_below (hSB.mono hN5), HLK.out wB hSB⟩)
        have HTB := Lib.hid (HT5.out.of_block (hSB.block _ (by have := HT5.out.lt; omega)))
        have hzB : wB.heap.size = w5.heap.size := by rw [hwB]; rfl
        clear hwB hSB
        go_simp
        refine Till.pure 0 rfl rfl (by kernel_rfl) (NoPanic.noFrame _) HSB.out ?_
        go_big_quiet_step (fail)
        refine wpQuiet_nil ?_
        refine Till.pure 1 rfl rfl (by kernel_rfl) (NoPanic.noFrame _) HSB.out ?_
        go_big_quiet_step (fail)
        refine wpQuiet_nil ?_
        refine Till.pure 2 rfl rfl (by kernel_rfl) (NoPanic.noFrame _) HSB.out ?_
        go_big_quiet_step (fail)
        refine wpQuiet_nil ?_
        refine Till.load 3 70 _ ⟨b, 2, none⟩ (.map (some mt)) rfl rfl rfl rfl (by kernel_rfl) (NoPanic.noFrame _) HSB.out (fun w' hw' => run_loadVar_one Tryz.underlying70 rfl ((cell_eq (hw'.1.block b (by omega) (HH3.out.out.box_ne HH3.out.box)) 2).trans HC5.out)) ?_
        go_simp
        refine Till.load 4 31 _ ⟨wr.heap.size, 0, none⟩ (idv x) rfl rfl rfl rfl (by kernel_rfl) (NoPanic.noFrame _) HSB.out (fun w' hw' => run_loadAgg Tryz.underlying31 rfl (by rw [HI.out, bcs_length, HX3.out]) (HX5.out.of_block (hw'.1.block _ (by omega) (fun e => by have e' : wr.heap.size = mt := e; omega)))) ?_
        go_simp
        refine Till.look 5 70 _ _ false (.map (some mt)) (idv x) _ rfl rfl rfl (by rfl) (by rfl) (by kernel_rfl) (NoPanic.noFrame _) HSB.out (fun w' hw' => hw'.2) ?_
        go_simp
        refine Till.pure 6 rfl rfl (by kernel_rfl) (NoPanic.noFrame _) HSB.out ?_
        go_big_quiet_step (fail)
        refine wpQuiet_nil ?_
        obtain ⟨kx, hkx⟩ := idKeyOf x HX3.out
        refine Till.act 7 rfl rfl (by kernel_rfl) rfl ?_
        intro K hK
        refine wp_entry _ _ _ 70 rfl 31 3 idLaw Tryz.underlying70 _ (info_two intZero).1 mt _ (by rfl) HTB.out (idv x) kx (by rfl) hkx ?_
        intro v6 born w6 hg6 hs6 hL6 hst6
        have HS6 := Lib.hid (show Keeps (oneB mt) w5 w6 ∧ (Instr.lookup 70 (.map (some mt)) (idv x) false).run Tryz.prog w6 = .ok (.int .i64 CN) w6 from ⟨HSB.out.1.trans (Keeps.of_grown hg6 rfl), by
          obtain ⟨L1, hm1, rfl | ⟨hno, rfl⟩⟩ := hL6
          · rw [HCN.out]
            exact hm1.lookT HX3.out
          · have h0 : cntOf (bumps T (o.preds.take k)) x = 0 := by
              unfold cntOf
              cases he : (bumps T (o.preds.take k)).find? (fun y => decide (y.1 = x)) with
              | none => rfl
              | some y =>
                have h3 : y.1 = x := by simpa using List.find?_some he
                exact absurd (List.mem_map.2 ⟨y, List.mem_of_find?_eq_some he, by rw [← h3]; rfl⟩) (hno (.int .i64 y.2))
            have h1 := hasMap.lookT (T := (x, 0) :: bumps T (o.preds.take k)) (by simpa [tkv] using hm1) HX3.out
            rw [HCN.out, h0]
            simpa [cntOf] using h1⟩)
        have HST := Lib.hid hst6
        have HG6 := Lib.hid hg6
        clear hst6 hL6 hg6 hkx
        refine hK _ _ HS6.out ?_
        clear hK K
        go_simp
        refine Till.pure 8 rfl rfl (by kernel_rfl) (NoPanic.noFrame _) HS6.out ?_
        go_big_quiet_step (fail)
        refine wpQuiet_nil ?_
        obtain ⟨w7, hr7, hg7, hs7, hm7⟩ := HST.out (.int .i64 ((CN : Int) + 1))
        refine Till.tail _ rfl rfl (by kernel_rfl) (by kernel_rfl) ?_
        refine wpList_entryStore _ rfl _ _ _ 70 rfl _ _ _ (by rfl) (by rfl) (by rfl) w7 hr7 ?_
        have hmT : hasMap Tryz.prog 31 w7 mt ((bumps T (o.preds.take (k + 1))).map tkv) := by
          have h1 := hm7 _ (restAt_T (tkv_nodup HTB.out.nodup) x)
          rw [HX2.out, bumps_snoc, bumpT, ← HCN.out]
          exact h1
        have HM7 := Lib.hid hmT
        have HK7 := Lib.hid ((HK5.out.trans HSB.out.1).trans (Keeps.of_grown hg7 (S := oneB mt) rfl))
        have H327 := Lib.hid (show ∀ y ∈ bumps T (o.preds.take (k + 1)), y.1.length = 32 by rw [HX2.out, bumps_snoc]; exact bumpT_32 h32.out HX3.out)
        clear hmT hm7 hr7 hg7
        go_wp2
        refine NoPanic.normal ?_
        go_wp2
        go_roundw
        case rel => exact ⟨k + 1, by omega, by go_num, HM7, H327, HK7⟩
        case measure => simp [intOf] <;> omega
      · obtain rfl : k = o.preds.length := by omega
        go_wp2
        go_ret
        have h1 := hT.out
        have h2 := h32.out
        rw [List.take_length] at h1 h2
        have hk := (HK4.out.mono (T := twoB mo mt) (fun i hi => .inl hi)).trans (hkr.out.mono (T := twoB mo mt) (fun i hi => .inr hi))
        have hh := HH.out
        refine .inl ⟨by rw [← HDD.out]; exact hd, rfl, ⟨?_, ?_, ?_, h1, ?_, ?_, h2, ?_, hh.inB, hh.ne, ?_⟩, hk⟩
        · exact (hk.block b hblt (fun e => e.elim (hh.ops.box_ne hh.box) (hh.out.box_ne hh.box))).trans hh.box
        · exact HMO.out.of_block (hkr.out.block _ (by omega) hne)
        · exact hh.wait.of_block (hk.block _ hh.wait.lt (fun e => e.elim (fun e => hh.ne.1 e.symm) hh.ne.2.2))
        · intro e he
          rcases List.mem_append.1 he with he | he
          · exact (hh.okO e he).ok' hk (fun i off e1 _ => by have := hh.rows e (List.mem_append.2 (.inl he)) i off e1; exact fun e2 => e2.elim this.2.1 this.2.2.2)
          · rw [List.mem_singleton.1 he]
            exact ⟨HD.out, HN.out, HS.out.of_blocks hk.size (fun i off e hlt _ => hk.block i hlt (fun x => x.elim (HP.out i off e).2.2.1 (HP.out i off e).2.2.2.2)), fun i off e hne => (HP.out i off e).1 hne⟩
        · intro e he
          exact (hh.okW e he).ok' hk (fun i off e1 _ => by have := hh.rows e (List.mem_append.2 (.inr he)) i off e1; exact fun e2 => e2.elim this.2.1 this.2.2.2)
        · intro m
          rw [bumps_cnt, hh.cnt m]
          simp [behindN, E3.ent]
        · intro e he i off e1
          rcases List.mem_append.1 he with he | he
          · rcases List.mem_append.1 he with he | he
            · exact hh.rows e (List.mem_append.2 (.inl he)) i off e1
            · rw [List.mem_singleton.1 he] at e1
              exact (HP.out i off e1).2
          · exact hh.rows e (List.mem_append.2 (.inr he)) i off e1
  · have hdb : (o.depth != DD) = true := by simp [hd]
    go_wp2
    refine NoPanic.normal ?_
    go_wp2
    go_ret
    exact .inr ⟨by rw [← HDD.out]; exact hd, rfl, HB1.out.trans (HS2.out.mono (by omega))⟩
end Go.Proofs.YtfoifdhcelcgiaaGreatDoor
