/-
  A REGION THAT DRAWS ITS ORDER: its quiet operations in the order of the text, then its last operations in one forced order; some operations that look at no world may stand anywhere.
-/
import Derived.StillTailTactics
import Derived.WalkKit
import Derived.BigRegion
namespace Go.Proofs.Ytamnffcafbfojaa
open Go

theorem wp_region_tail {P : Program} {id : Nat} {Q : Exit → Act → World → Prop} {a : Act} {w : World} {l : List Oper} (n : Nat) (hm : P.follows .mixedOrders = true) (hB : Region.lexTailB .any l.toArray n = true)
    (h : wpStill P l.toArray w.drew (fun a' => wpList P l.toArray Q (l.drop n) a' w.drew) (l.take n) a) : (Code.region id l.toArray true).wp P Q a w :=
  wp_region_still_tail n hm hB h

section
variable {P : Program} {ops : Array Oper} {md : Region.Mode} {w : World}

def sinkF (md : Region.Mode) (ops : Array Oper) (n : Nat) (L0 : Array Bool) : Bool :=
  (List.range n).all fun i => L0.getD i true || (List.range (n + 1)).any fun j => decide (i < j) && Region.waitsFor md ops j i

structure InvF (md : Region.Mode) (ops : Array Oper) (n : Nat) (L0 listed : Array Bool) : Prop where
  inv : HeadInv md ops n listed
  free : ∀ i, L0.getD i true = true → listed.getD i true = true

theorem InvF.set {n i : Nat} {L0 listed : Array Bool} (h : InvF md ops n L0 listed) (hi : i ∈ Region.ready md ops listed) (hin : i < n) : InvF md ops n L0 (listed.setIfInBounds i true) :=
  ⟨h.inv.set hi hin, fun j hj => by
    by_cases hij : i = j
    · subst hij
      have h1 := (mem_ready.1 hi).1
      rw [h.free i hj] at h1
      cases h1
    · rw [getD_set_ne true hij]; exact h.free j hj⟩

theorem tail_waitsF {n : Nat} {L0 listed : Array Bool} (hs : sinkF md ops n L0 = true) (hc : Region.chainB md ops n = true) (hn : n < ops.size) (h : InvF md ops n L0 listed) :
    ∀ (d i : Nat), n - i = d → i < n → listed.getD i true = false → ∀ t, n ≤ t → t ∉ Region.ready md ops listed := by
  intro d
  induction d using Nat.strongRecOn with
  | _ d ih =>
    intro i hd hi hun t ht hr
    obtain ⟨_, ot, hot, hall⟩ := mem_ready.1 hr
    have htlt : t < ops.size := (Array.getElem?_eq_some_iff.1 hot).1
    by_cases htn : t = n
    · subst htn
      have h1 := List.all_eq_true.1 hs i (List.mem_range.2 hi)
      rw [Bool.or_eq_true] at h1
      have h1 : ((List.range (t + 1)).any fun j => decide (i < j) && Region.waitsFor md ops j i) = true := h1.resolve_left (fun e => by rw [h.free i e] at hun; cases hun)
      obtain ⟨j, hj, hj2⟩ := List.any_eq_true.1 h1
      simp only [Bool.and_eq_true, decide_eq_true_eq] at hj2
      obtain ⟨oj, hoj, e, he, hb, hon⟩ := Region.waitsFor_spec hj2.2
      have hjle : j ≤ t := by have := List.mem_range.1 hj; omega
      by_cases hjt : j = t
      · subst hjt
        have : oj = ot := Option.some.inj (hoj.symm.trans hot)
        subst this
        have h2 := hall e he hb
        rw [hon, getD_both hun] at h2
        cases h2
      · cases hl : listed.getD j false with
        | true =>
          have h2 := h.inv.closed j oj hoj hl e he hb
          rw [hon, getD_both hun] at h2
          cases h2
        | false =>
          have hjs : j < listed.size := by rw [h.inv.size]; omega
          exact ih (t - j) (by omega) j rfl (by omega) (getD_in hjs hl) t (Nat.le_refl _) hr
    · have h1 := List.all_eq_true.1 hc t (List.mem_range.2 htlt)
      simp only [Bool.or_eq_true, decide_eq_true_eq] at h1
      rcases h1 with h1 | h1
      · omega
      · obtain ⟨o', ho', e, he, hb, hon⟩ := Region.waitsFor_spec h1
        have : o' = ot := Option.some.inj (ho'.symm.trans hot)
        subst this
        have h2 := hall e he hb
        rw [hon, getD_both (h.inv.tail (t - 1) (by omega) (by omega))] at h2
        cases h2

theorem wpAnyL_firstF {n i : Nat} {oi : Oper} {v : Value} {L0 : Array Bool} {L : Array Bool → Act → Prop} (hi : ops[i]? = some oi) (hsel : ∀ (j : Nat) (o : Oper) cs b, ops[j]? = some o → o.op ≠ .select cs b)
    (hs : sinkF md ops n L0 = true) (hc : Region.chainB md ops n = true) (hn : n < ops.size) (hin : i < n)
    (hdone : ∀ listed a, L listed a → ∀ j ∈ Region.ready md ops listed, n ≤ j) :
    ∀ (f : Nat) (listed : Array Bool) (a : Act), InvF md ops n L0 listed →
      (∀ j oj, ops[j]? = some oj → j ≠ i → listed.getD j true = false → (∀ e ∈ oj.after, Region.binds md e = true → e.on ≠ i) → oi.apart ops oj = true) →
      i ∈ Region.ready md ops listed → YieldsAt P ops w oi v a →
      wpAnyL P md ops w n L f (listed.setIfInBounds i true) (a.put oi.dst v) → wpAnyL P md ops w n L (f + 1) listed a := by
  intro f
  induction f with
  | zero =>
    intro listed a inv _ hr hy H
    have hun := (mem_ready.1 hr).1
    refine ⟨fun h => (by rw [h] at hr; cases hr), fun j hj => ?_⟩
    have hjn : j < n := by
      rcases Nat.lt_or_ge j n with h | h
      · exact h
      · exact absurd hj (tail_waitsF hs hc hn inv _ i rfl hin hun j h)
    refine ⟨hjn, ?_⟩
    by_cases hji : j = i
    · subst hji; exact hy.stOp hi H
    · have := hdone _ _ H j (ready_mono hj hji)
      omega
  | succ f ih =>
    intro listed a inv hfree hr hy H
    have hun := (mem_ready.1 hr).1
    refine ⟨fun h => (by rw [h] at hr; cases hr), fun j hj => ?_⟩
    have hjn : j < n := by
      rcases Nat.lt_or_ge j n with h | h
      · exact h
      · exact absurd hj (tail_waitsF hs hc hn inv _ i rfl hin hun j h)
    refine ⟨hjn, ?_⟩
    by_cases hji : j = i
    · subst hji; exact hy.stOp hi H
    · have h1 := (H.2 j (ready_mono hj hji)).2
      obtain ⟨hjun, oj, hoj, hall⟩ := mem_ready.1 hj
      have hnot : ∀ e ∈ oj.after, Region.binds md e = true → e.on ≠ i := fun e he hb heq => by
        have h1 := hall e he hb
        rw [heq, getD_both hun] at h1
        cases h1
      have h2 := stOp_put hoj (hfree j oj hoj hji hjun hnot) (fun cs b => hsel i oi cs b hi) (fun cs b => hsel j oj cs b hoj) hy h1
      have hfree' : ∀ k ok, ops[k]? = some ok → k ≠ i → (listed.setIfInBounds j true).getD k true = false →
          (∀ e ∈ ok.after, Region.binds md e = true → e.on ≠ i) → oi.apart ops ok = true := fun k ok hk hki hun hno => by
        refine hfree k ok hk hki ?_ hno
        by_cases hjk : j = k
        · subst hjk; exact hjun
        · rw [getD_set_ne true hjk] at hun; exact hun
      refine stOp_mono (fun a' h3 => ih (listed.setIfInBounds j true) a' (inv.set hj hjn) hfree' (ready_mono hr (Ne.symm hji)) h3.1 ?_) h2
      rw [Array.setIfInBounds_comm _ _ hji]
      exact h3.2

/-- how many of the head are still to come -/
def cntF (L0 : Array Bool) : Nat → Nat → Nat
  | 0, _ => 0
  | f + 1, k => if L0.getD k true then cntF L0 f (k + 1) else cntF L0 f (k + 1) + 1

def lexF (md : Region.Mode) (ops : Array Oper) (L0 : Array Bool) (g : Nat) : Nat → Nat → Array Bool → Bool
  | 0, k, listed => Region.seqB md ops g k listed
  | f + 1, k, listed => if L0.getD k true then lexF md ops L0 g f (k + 1) listed else (Region.ready md ops listed).contains k && Region.free md ops listed k && lexF md ops L0 g f (k + 1) (listed.setIfInBounds k true)

def wpStillF (P : Program) (ops : Array Oper) (w : World) (L0 : Array Bool) (Q : Act → Prop) : Nat → List Oper → Act → Prop
  | _, [], a => Q a
  | k, o :: rest, a => if L0.getD k true then wpStillF P ops w L0 Q (k + 1) rest a else
      if Region.wanted o (yielded ops a.tmps) then o.still P a w (wpStillF P ops w L0 Q (k + 1) rest) else wpStillF P ops w L0 Q (k + 1) rest (a.put o.dst undef)

theorem wpStillF_nil {L0 : Array Bool} {Q : Act → Prop} {k : Nat} {a : Act} (h : Q a) : wpStillF P ops w L0 Q k [] a := h

theorem wpStillF_skip {L0 : Array Bool} {Q : Act → Prop} {k : Nat} {o : Oper} {rest : List Oper} {a : Act} (hk : L0.getD k true = true) (h : wpStillF P ops w L0 Q (k + 1) rest a) : wpStillF P ops w L0 Q k (o :: rest) a := by
  unfold wpStillF
  rw [if_pos hk]
  exact h

theorem wpStillF_step {L0 : Array Bool} {Q : Act → Prop} {k : Nat} {o : Oper} {rest : List Oper} {a : Act} (hk : L0.getD k true = false)
    (h : ∀ K : Act → Prop, (∀ a', wpStillF P ops w L0 Q (k + 1) rest a' → K a') → if Region.wanted o (yielded ops a.tmps) then o.still P a w K else K (a.put o.dst undef)) : wpStillF P ops w L0 Q k (o :: rest) a := by
  unfold wpStillF
  rw [if_neg (by rw [hk]; simp)]
  exact h _ (fun _ h => h)

theorem wpAnyL_lexF {n g : Nat} {L0 : Array Bool} {Lq : Act → Prop} (hsel : Region.noSelect ops = true) (hs : sinkF md ops n L0 = true) (hc : Region.chainB md ops n = true) (hn : n < ops.size) :
    ∀ (l : List Oper) (k : Nat) (listed : Array Bool) (a : Act), (∀ j, j < l.length → l[j]? = ops[k + j]?) → k + l.length = n → InvF md ops n L0 listed →
    lexF md ops L0 g l.length k listed = true → wpStillF P ops w L0 Lq k l a →
    wpAnyL P md ops w n (fun listed' a' => Region.seqB md ops g n listed' = true ∧ Lq a') (cntF L0 l.length k) listed a
  | [], k, listed, a, _, hk, _, hB, h => by
    have : k = n := by simpa using hk
    subst this
    exact ⟨by simpa [lexF] using hB, h⟩
  | o :: l, k, listed, a, hl, hk, inv, hB, h => by
    have h0 : ops[k]? = some o := by simpa using (hl 0 (by simp)).symm
    have hl' : ∀ j, j < l.length → l[j]? = ops[k + 1 + j]? := fun j hj => by have := hl (j + 1) (by simp; omega); simpa [Nat.add_assoc, Nat.add_comm 1 j] using this
    have hk' : k + 1 + l.length = n := by simp only [List.length_cons] at hk; omega
    simp only [List.length_cons, lexF] at hB
    simp only [List.length_cons, cntF]
    unfold wpStillF at h
    by_cases hf0 : L0.getD k true = true
    · rw [if_pos hf0] at hB h ⊢
      exact wpAnyL_lexF hsel hs hc hn l (k + 1) listed a hl' hk' inv hB h
    · rw [if_neg hf0] at hB h ⊢
      simp only [Bool.and_eq_true] at hB
      obtain ⟨⟨hr, hf⟩, hB'⟩ := hB
      have hkn : k < n := by simp only [List.length_cons] at hk; omega
      have hr' : k ∈ Region.ready md ops listed := by simpa using hr
      have hst : stOp P ops w k (wpStillF P ops w L0 Lq (k + 1) l) a := by unfold stOp; simp only [h0]; exact h
      obtain ⟨v, hy, hK⟩ := yieldsAt_of_stOp h0 hst
      exact wpAnyL_firstF h0 (Region.noSelect_spec hsel) hs hc hn hkn (fun listed' a' hL => seqB_ready hL.1) _ listed a inv (Region.free_spec h0 hf) hr' hy
        (wpAnyL_lexF hsel hs hc hn l (k + 1) _ _ hl' hk' (inv.set hr' hkn) hB' hK)

def closedF (md : Region.Mode) (ops : Array Oper) (L0 : Array Bool) : Bool :=
  (List.range ops.size).all fun j => !L0.getD j false || match ops[j]? with
    | some oj => oj.after.all fun e => !Region.binds md e || L0.getD e.on false
    | none => true

def tailF (md : Region.Mode) (ops : Array Oper) (n : Nat) (L0 : Array Bool) : Bool :=
  Region.noSelect ops && decide (n < ops.size) && decide (L0.size = ops.size) && sinkF md ops n L0 && Region.chainB md ops n && closedF md ops L0 &&
    ((List.range ops.size).all fun t => decide (t < n) || !L0.getD t true) && lexF md ops L0 (ops.size - n) n 0 L0

theorem wpAny_tailF {Q : Exit → Act → World → Prop} {a : Act} {l : List Oper} {fuel : Nat} {L0 : Array Bool} (n : Nat) (hB : tailF md l.toArray n L0 = true) (hfuel : fuel = cntF L0 (l.take n).length 0 + (l.drop n).length)
    (h : wpStillF P l.toArray w L0 (fun a' => wpList P l.toArray Q (l.drop n) a' w) 0 (l.take n) a) : wpAny P md l.toArray Q fuel L0 a w := by
  unfold tailF at hB
  simp only [Bool.and_eq_true, decide_eq_true_eq] at hB
  obtain ⟨⟨⟨⟨⟨⟨⟨hsel, hn⟩, hsz⟩, hs⟩, hc⟩, hcl⟩, htl⟩, hlex⟩ := hB
  have hn' : n < l.length := by simpa using hn
  have htk : (l.take n).length = n := by simp; omega
  have hdl : (l.drop n).length = l.toArray.size - n := by simp
  have inv0 : InvF md l.toArray n L0 L0 := by
    refine ⟨⟨hsz, fun j oj hj hl e he hb => ?_, fun t ht ht' => ?_⟩, fun i h => h⟩
    · have h1 := List.all_eq_true.1 hcl j (List.mem_range.2 (Array.getElem?_eq_some_iff.1 hj).1)
      rw [hl, hj] at h1
      simp only [Bool.not_true, Bool.false_or] at h1
      obtain ⟨i, hi, rfl⟩ := Array.getElem_of_mem he
      have h2 := Array.all_eq_true.1 h1 i hi
      rw [hb] at h2
      simpa using h2
    · have h1 := List.all_eq_true.1 htl t (List.mem_range.2 ht')
      rw [Bool.or_eq_true, decide_eq_true_eq] at h1
      rcases h1 with h1 | h1
      · omega
      · simpa using h1
  have H := wpAnyL_lexF (md := md) (g := l.toArray.size - n) hsel hs hc hn (l.take n) 0 _ a (fun j hj => by
    have hj' : j < n := by rw [htk] at hj; exact hj
    simp [hj']) (by rw [htk]; omega) inv0 (by rw [htk]; exact hlex) h
  have := wpAny_of_head (Q' := Q) (g := l.toArray.size - n) (fun listed a' hL => by
    have := wpAny_of_seq (md := md) (Q' := Q) (l.drop n) n listed a' w (fun j => by simp [List.getElem?_drop]) (by rw [hdl]; exact hL.1) hL.2
    rwa [hdl] at this) _ _ _ H
  rw [hfuel, hdl]
  exact this

/-- a move, whenever -/
theorem wpAny_move {Q : Exit → Act → World → Prop} {i : Nat} {oi : Oper} {fuel : Nat} {listed : Array Bool} {a : Act} (x : Operand) (hi : ops[i]? = some oi) (hop : oi.op = Op.move x) (hg : oi.guard = none)
    (hs : Region.noSelect ops = true) (hf : Region.free md ops listed i = true) (hr : (Region.ready md ops listed).contains i = true)
    (hQ' : ∀ v c a w, Q (.panic c) (a.put oi.dst v) w → Q (.panic c) a w)
    (h : wpAny P md ops Q fuel (listed.setIfInBounds i true) (a.put oi.dst (a.eval x)) w) : wpAny P md ops Q (fuel + 1) listed a w :=
  wpAny_take hi hs hf hr (hQ' _) (Or.inl ⟨by simp [Region.wanted, hg], fun w => by simp [execOp, hop]⟩) h
end
end Go.Proofs.Ytamnffcafbfojaa
