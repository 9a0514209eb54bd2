/-
  A REGION THAT DRAWS ITS ORDER, WHOSE LAST OPERATIONS MAY WRITE WHAT IT LOADS: a condition S on the world holds till the first n operations have come up; up to there what only reads may be taken first; the operations from n on wait for all of these, and nothing is asked of S behind them.
-/
import Derived.OrdersHeld
import Derived.Deep.RegionHeld3
import Derived.StillTail
import Derived.BigQuiet
import Derived.BigRegion
import Derived.WalkKit
namespace Go.Proofs.Ytamnffcafbfojaa
open Go

section
variable {P : Program} {ops : Array Oper} {Q : Exit → Act → World → Prop} {md : Region.Mode} {S : World → Prop} {n : Nat}

def upB (n : Nat) (listed : Array Bool) : Bool := (List.range n).all fun i => listed.getD i true

def wpTill (P : Program) (md : Region.Mode) (ops : Array Oper) (Q : Exit → Act → World → Prop) (S : World → Prop) (n : Nat) : Nat → Array Bool → Act → World → Prop
  | 0, listed, a, w => wpAny P md ops Q 0 listed a w
  | fuel + 1, listed, a, w =>
    if upB n listed = true then wpAny P md ops Q (fuel + 1) listed a w else
      (Region.ready md ops listed = [] → Q .normal a w) ∧
      ∀ i ∈ Region.ready md ops listed, wpOp P ops Q i (fun a' w' => S w' ∧ wpTill P md ops Q S n fuel (listed.setIfInBounds i true) a' w') a w

theorem wpAny_of_till : ∀ (fuel : Nat) (listed : Array Bool) (a : Act) (w : World), wpTill P md ops Q S n fuel listed a w → wpAny P md ops Q fuel listed a w
  | 0, _, _, _, h => h
  | fuel + 1, listed, a, w, h => by
    unfold wpTill at h
    split at h
    · exact h
    · exact ⟨h.1, fun i hi => wpOp_mono (fun a' w' h' => wpAny_of_till fuel _ a' w' h'.2) (h.2 i hi)⟩

theorem upB_at {i : Nat} {listed : Array Bool} (hi : i < n) (h : listed.getD i true = false) : ¬ upB n listed = true := fun hu => by
  have := List.all_eq_true.1 hu i (List.mem_range.2 hi)
  rw [h] at this
  cases this

/-- the operations from n on wait for all the others -/
structure Waits (md : Region.Mode) (ops : Array Oper) (n : Nat) : Prop where
  sink : Region.sinkB md ops n = true
  chain : Region.chainB md ops n = true
  lt : n < ops.size

theorem wpTill_first {i : Nat} {oi : Oper} {v : Value} (hW : Waits md ops n) (hi : ops[i]? = some oi) (hid : i < n) (hsel : ∀ (j : Nat) (o : Oper) cs b, ops[j]? = some o → o.op ≠ .select cs b)
    (hQ : ∀ c a w, Q (.panic c) (a.put oi.dst v) w → Q (.panic c) a w) : ∀ (fuel : Nat) (listed : Array Bool) (a : Act) (w : World), HeadInv md ops n listed →
      (∀ j oj, ops[j]? = some oj → j ≠ i → listed.getD j true = false → (∀ e ∈ oj.after, Region.binds md e = true → e.on ≠ i) → oi.apart ops oj = true) →
      i ∈ Region.ready md ops listed → YieldsIf P ops S oi v a → S w →
      wpTill P md ops Q S n fuel (listed.setIfInBounds i true) (a.put oi.dst v) w → wpTill P md ops Q S n (fuel + 1) listed a w := by
  intro fuel
  induction fuel with
  | zero =>
    intro listed a w _ _ hr hy hS H
    have hun := (mem_ready.1 hr).1
    unfold wpTill
    rw [if_neg (upB_at hid hun)]
    refine ⟨fun h => (by rw [h] at hr; cases hr), fun j hj => ?_⟩
    by_cases hji : j = i
    · subst hji; exact hy.wpOp hi hS ⟨hS, H⟩
    · have h1 := ready_mono hj hji
      have h2 : Region.ready md ops (listed.setIfInBounds i true) = [] := H.1
      rw [h2] at h1
      cases h1
  | succ fuel ih =>
    intro listed a w inv hfree hr hy hS H
    have hun := (mem_ready.1 hr).1
    unfold wpTill
    rw [if_neg (upB_at hid hun)]
    refine ⟨fun h => (by rw [h] at hr; cases hr), fun j hj => ?_⟩
    by_cases hji : j = i
    · subst hji; exact hy.wpOp hi hS ⟨hS, H⟩
    have hjn : j < n := by
      rcases Nat.lt_or_ge j n with h | h
      · exact h
      · exact absurd hj (tail_waits hW.sink hW.chain hW.lt inv _ i rfl hid hun j h)
    obtain ⟨hjun, oj, hoj, hall⟩ := mem_ready.1 hj
    have hnot : ∀ e ∈ oj.after, Region.binds md e = true → e.on ≠ i := fun e he hb heq => by
      have h1 := hall e he hb
      rw [heq, getD_both hun] at h1
      cases h1
    have hfree' : ∀ k ok, ops[k]? = some ok → k ≠ i → (listed.setIfInBounds j true).getD k true = false →
        (∀ e ∈ ok.after, Region.binds md e = true → e.on ≠ i) → oi.apart ops ok = true := fun k ok hk hki hu hno => by
      refine hfree k ok hk hki ?_ hno
      by_cases hjk : j = k
      · subst hjk; exact hjun
      · rw [getD_set_ne true hjk] at hu; exact hu
    -- i is not the last of the first n: j has not come up
    have hnup : ¬ upB n (listed.setIfInBounds i true) = true := upB_at hjn (by rw [getD_set_ne true (Ne.symm hji)]; exact hjun)
    unfold wpTill at H
    rw [if_neg hnup] at H
    have h1 := H.2 j (ready_mono hj hji)
    have h2 := wpOp_putIf hoj (hfree j oj hoj hji hjun hnot) (fun cs b => hsel i oi cs b hi) (fun cs b => hsel j oj cs b hoj) hQ hy h1
    refine wpOp_mono (fun a' w' h3 => ⟨h3.2.1, ih (listed.setIfInBounds j true) a' w' (inv.set hj hjn) hfree' (ready_mono hr (Ne.symm hji)) h3.1 h3.2.1 ?_⟩) h2
    rw [Array.setIfInBounds_comm _ _ hji]
    exact h3.2.2

/-! ### the moves -/
/-- it hands back a value, if it comes to an end -/
def valueB : Op → Bool
  | .move _ | .assign _ | .pick .. | .load .. | .nilCheck _ | .binOp .. | .unOp .. | .convert .. | .slice .. | .fieldAddr .. | .field .. | .indexAddr .. | .index .. | .lookup .. | .extract .. => true
  | _ => false

def OnlyValue (P : Program) (s : Sem Next) : Prop := ∀ (w : World) (m : Next) (w' : World), s.run P w = .ok m w' → ∃ u, m = .value u

theorem OnlyValue.pure (u : Value) : OnlyValue P (Pure.pure (Next.value u)) := fun w m w' h => by
  simp only [Sem.run_pure, Result.ok.injEq] at h
  exact ⟨u, h.1.symm⟩

theorem OnlyValue.bind {α : Type} (s : Sem α) (f : α → Sem Next) (hf : ∀ x, OnlyValue P (f x)) : OnlyValue P (s >>= f) := fun w m w' h => by
  rw [Sem.run_bind] at h
  cases hs : s.run P w with
  | ok u w1 =>
    rw [hs] at h
    exact hf u w1 m w' (by simpa [Result.andThen] using h)
  | halt x w1 => rw [hs] at h; simp [Result.andThen] at h

theorem OnlyValue.panics : OnlyValue P (runtimePanic .nilDeref) := fun w m w' h => by
  simp [runtimePanic] at h

theorem value_of {o : Oper} {ρ : Operand → Value} {w w' : World} {m : Next} (hv : valueB o.op = true) (h : (execOp ρ o).run P w = .ok m w') : ∃ u, m = .value u := by
  refine (?_ : OnlyValue P (execOp ρ o)) w m w' h
  unfold execOp
  split <;> simp_all only [valueB, Bool.false_eq_true] <;> first
    | exact OnlyValue.pure _
    | exact OnlyValue.bind _ _ fun _ => OnlyValue.pure _
    | skip
  split
  · exact OnlyValue.panics
  · exact OnlyValue.panics
  · exact OnlyValue.panics
  · split
    · exact OnlyValue.panics
    · refine OnlyValue.bind _ _ fun _ => OnlyValue.bind _ _ fun b => ?_
      split
      · exact OnlyValue.bind _ _ fun _ => OnlyValue.pure _
      · exact OnlyValue.pure _
    · exact OnlyValue.pure _
  · exact OnlyValue.pure _
/-- what the moves lean on -/
structure TillOk (md : Region.Mode) (ops : Array Oper) (n : Nat) : Prop where
  waits : Waits md ops n
  sel : Region.noSelect ops = true

def Till (P : Program) (md : Region.Mode) (ops : Array Oper) (Q : Exit → Act → World → Prop) (S : World → Prop) (n : Nat) (fuel : Nat) (listed : Array Bool) (a : Act) (w : World) : Prop :=
  TillOk md ops n → HeadInv md ops n listed → wpTill P md ops Q S n fuel listed a w

def tillB (md : Region.Mode) (ops : Array Oper) (n : Nat) : Bool :=
  Region.sinkB md ops n && Region.chainB md ops n && decide (n < ops.size) && Region.noSelect ops

/-- what is asked at a panic does not hang on the frame -/
def NoFrame (Q : Exit → Act → World → Prop) : Prop := ∀ c a d v w, Q (.panic c) (a.put d v) w → Q (.panic c) a w

theorem NoPanic.noFrame (Q : Exit → Act → World → Prop) : NoFrame (NoPanic Q) := fun _ _ _ _ _ h => h

/-- the beginning -/
theorem wp_region_till {id : Nat} {a : Act} {w : World} {l : List Oper} (n : Nat) (S : World → Prop) (hm : P.follows .mixedOrders = true) (hB : tillB .any l.toArray n = true)
    (h : Till P .any l.toArray Q S n l.length (Array.replicate l.length false) a w.drew) : (Code.region id l.toArray true).wp P Q a w := by
  unfold tillB at hB
  simp only [Bool.and_eq_true, decide_eq_true_eq] at hB
  obtain ⟨⟨⟨h1, h2⟩, h3⟩, h4⟩ := hB
  have hsz : l.toArray.size = l.length := by simp
  refine wp_region_any hm ?_
  rw [hsz]
  refine wpAny_of_till (S := S) (n := n) _ _ _ _ (h ⟨⟨h1, h2, h3⟩, h4⟩ ⟨by simp, fun j oj _ hl => ?_, fun t _ ht => ?_⟩)
  · rw [getD_replicate_false] at hl; cases hl
  · rw [hsz] at ht
    exact getD_in (by simpa using ht) (getD_replicate_false _ _)

/-- number i may be taken first -/
def mayB (md : Region.Mode) (ops : Array Oper) (n i : Nat) (listed : Array Bool) : Bool := decide (i < n) && Region.free md ops listed i && (Region.ready md ops listed).contains i

theorem Till.take {i fuel : Nat} {oi : Oper} {v : Value} {listed : Array Bool} {a : Act} {w : World} (hi : ops[i]? = some oi) (hB : mayB md ops n i listed = true) (hQ : NoFrame Q) (hS : S w) (hy : YieldsIf P ops S oi v a)
    (h : Till P md ops Q S n fuel (listed.setIfInBounds i true) (a.put oi.dst v) w) : Till P md ops Q S n (fuel + 1) listed a w := fun ok inv => by
  unfold mayB at hB
  simp only [Bool.and_eq_true, decide_eq_true_eq] at hB
  obtain ⟨⟨h1, h2⟩, h3⟩ := hB
  have hr : i ∈ Region.ready md ops listed := by simpa using h3
  exact wpTill_first ok.waits hi h1 (Region.noSelect_spec ok.sel) (fun c a w => hQ c a oi.dst v w) fuel listed a w inv (Region.free_spec hi h2) hr hy hS (h ok (inv.set hr h1))

theorem at_drop {i : Nat} {oi : Oper} {rest : List Oper} (h : ops.toList.drop i = oi :: rest) : ops[i]? = some oi := by
  have h1 := congrArg (fun l : List Oper => l[0]?) h
  simp only [List.getElem?_drop, Nat.add_zero, List.getElem?_cons_zero] at h1
  simpa using h1

/-- what looks at no world: by the quiet walk's own step -/
theorem Till.pure (i : Nat) {fuel : Nat} {oi : Oper} {listed : Array Bool} {a : Act} {w : World} {rest : List Oper} (hi0 : ops.toList.drop i = oi :: rest) (hv : valueB oi.op = true) (hB : mayB md ops n i listed = true) (hQ : NoFrame Q) (hS : S w)
    (h : wpQuiet P ops (fun _ => True) (fun a' => Till P md ops Q S n fuel (listed.setIfInBounds i true) a' w) [oi] a) : Till P md ops Q S n (fuel + 1) listed a w := by
  have hi := at_drop hi0
  unfold wpQuiet at h
  by_cases hw : Region.wanted oi (yielded ops a.tmps) = true
  · rw [if_pos hw] at h
    obtain ⟨v, h1, h2⟩ := h
    refine Till.take (v := v) hi hB hQ hS (.inl ⟨hw, fun w' _ => ?_⟩) h2
    have h3 := h1 w' trivial
    unfold Oper.quietAt at h3
    cases hr : (execOp a.eval oi).run P w' with
    | ok m w2 =>
      obtain ⟨u, rfl⟩ := value_of hv hr
      rw [hr] at h3
      simp only [Oper.quietUpon] at h3
      rw [h3.1, h3.2]
    | halt x w2 => rw [hr] at h3; simp only [Oper.quietUpon] at h3
  · rw [if_neg hw] at h
    exact Till.take (v := undef) hi hB hQ hS (.inr ⟨by simpa using hw, rfl⟩) h

/-- passed over: its guard says no -/
theorem Till.pass (i : Nat) {fuel : Nat} {oi : Oper} {listed : Array Bool} {a : Act} {w : World} {rest : List Oper} (hi0 : ops.toList.drop i = oi :: rest) (hw : Region.wanted oi (yielded ops a.tmps) = false) (hB : mayB md ops n i listed = true) (hQ : NoFrame Q) (hS : S w)
    (h : Till P md ops Q S n fuel (listed.setIfInBounds i true) (a.put oi.dst undef) w) : Till P md ops Q S n (fuel + 1) listed a w :=
  Till.take (v := undef) (at_drop hi0) hB hQ hS (.inr ⟨hw, rfl⟩) h

/-- a load of what S names: whatever its type -/
theorem Till.load (i : Nat) {fuel : Nat} {oi : Oper} {listed : Array Bool} {a : Act} {w : World} (t : TypeId) (x : Operand) (p : Addr) (v : Value) {rest : List Oper} (hi0 : ops.toList.drop i = oi :: rest) (hop : oi.op = .load t x) (hw : Region.wanted oi (yielded ops a.tmps) = true)
    (hx : a.eval x = .pointer (some p)) (hB : mayB md ops n i listed = true) (hQ : NoFrame Q) (hS : S w) (hl : ∀ w', S w' → (loadVar t p).run P w' = .ok v w')
    (h : Till P md ops Q S n fuel (listed.setIfInBounds i true) (a.put oi.dst v) w) : Till P md ops Q S n (fuel + 1) listed a w :=
  Till.take (v := v) (at_drop hi0) hB hQ hS (.inl ⟨hw, fun w' hS' => by
    unfold execOp
    simp only [hop, hx, Instr.loadAt, Instr.sureAddr, Sem.run_bind, Sem.run_pure, Result.andThen_ok, hl w' hS']⟩) h

/-- one that acts comes up, and no other may -/
theorem Till.act (i : Nat) {fuel : Nat} {oi : Oper} {listed : Array Bool} {a : Act} {w : World} {rest : List Oper} (hi0 : ops.toList.drop i = oi :: rest) (hin : decide (i < n) = true) (hr : Region.ready md ops listed = [i]) (hw : Region.wanted oi (yielded ops a.tmps) = true)
    (h : ∀ K : Act → World → Prop, (∀ a' w', S w' → Till P md ops Q S n fuel (listed.setIfInBounds i true) a' w' → K a' w') → oi.wp P a w K Q) :
    Till P md ops Q S n (fuel + 1) listed a w := fun ok inv => by
  have hi := at_drop hi0
  have hin' : i < n := of_decide_eq_true hin
  have hr' : i ∈ Region.ready md ops listed := by rw [hr]; simp
  unfold wpTill
  rw [if_neg (upB_at hin' (mem_ready.1 hr').1)]
  refine ⟨fun h0 => (by rw [hr] at h0; cases h0), fun j hj => ?_⟩
  rw [hr] at hj
  obtain rfl : j = i := by simpa using hj
  have := h (fun a' w' => S w' ∧ wpTill P md ops Q S n fuel (listed.setIfInBounds j true) a' w') (fun a' w' hS hT => ⟨hS, hT ok (inv.set hr' hin')⟩)
  unfold wpOp
  simp only [hi]
  rw [if_pos hw]
  exact .inl this

/-- the last ones, in their order -/
theorem Till.tail {fuel : Nat} {listed : Array Bool} {a : Act} {w : World} (l : List Oper) (hl : ops.toList.drop n = l) (hf : fuel + 1 = l.length) (hu : upB n listed = true) (hB : Region.seqB md ops l.length n listed = true) (h : wpList P ops Q l a w) :
    Till P md ops Q S n (fuel + 1) listed a w := fun _ _ => by
  unfold wpTill
  rw [if_pos hu, hf]
  exact wpAny_of_seq l n listed a w (fun j => by rw [← hl]; simp) hB h

/-- a cell that is no aggregate -/
theorem run_loadVar_one {t : TypeId} {d : TypeDesc} {p : Addr} {v : Value} {w : World} (hu : P.underlying t = some d) (hd : (match d with | .struct _ | .array _ _ => true | _ => false) = false) (hc : w.cell? p = some v) : (loadVar t p).run P w = .ok v w := by
  unfold loadVar isAgg
  rw [Sem.run_bind, Sem.run_bind, run_underlying hu w]
  cases d <;> simp_all [Result.andThen, go_sem]
end
end Go.Proofs.Ytamnffcafbfojaa
