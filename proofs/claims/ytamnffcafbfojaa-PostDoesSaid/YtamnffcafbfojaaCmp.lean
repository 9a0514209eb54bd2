/-
  cmp.Compare AND cmp.Or AT int.
-/
import Derived.Test.YtamnffcafbfojaaRows
import Derived.WalkKit
import Derived.WalkSpells
import Derived.WalkLawsBesides
namespace Go.Proofs.Ytamnffcafbfojaa
open Go Go.RowKit

def cmpi (x y : Int) : Int := if x < y then -1 else if y < x then 1 else 0

theorem isNaN_any (x : Int) (w : World) : Calls Try.prog 29 #[.int .i64 x] w fun e w' => e = .returned (.bool false) ∧ w' = w := by
  go_enter Try.func29, Try.ntmps29
  go_wp2
  go_ret
  exact ⟨by simp, rfl⟩

theorem compare_any (x y : Int) (w : World) : Calls Try.prog 26 #[.int .i64 x, .int .i64 y] w fun e w' => e = .returned (.int .i64 (cmpi x y)) ∧ w' = w := by
  unfold cmpi
  by_cases h1 : x < y
  · go_enter Try.func26, Try.ntmps26
    go_wp2_with (first | (go_at_call 29; refine (isNaN_any _ _).mono ?_; rintro e w' ⟨rfl, rfl⟩))
    go_ret
    exact ⟨by simp, rfl⟩
  · by_cases h2 : y < x
    · go_enter Try.func26, Try.ntmps26
      go_wp2_with (first | (go_at_call 29; refine (isNaN_any _ _).mono ?_; rintro e w' ⟨rfl, rfl⟩))
      go_ret
      exact ⟨by simp, rfl⟩
    · go_enter Try.func26, Try.ntmps26
      go_wp2_with (first | (go_at_call 29; refine (isNaN_any _ _).mono ?_; rintro e w' ⟨rfl, rfl⟩))
      go_ret
      exact ⟨by simp, rfl⟩

def or2 (a b : Int) : Int := if a = 0 then b else a

set_option maxHeartbeats 400000 in
theorem or2_any (B : Nat) (a b : Int) (w : World) (c0 : w.cell? ⟨B, 0, none⟩ = some (.int .i64 a)) (c1 : w.cell? ⟨B, 1, none⟩ = some (.int .i64 b)) :
    Calls Try.prog 25 #[.slice (some ⟨B, 0, none⟩) 2 2] w fun e w' => e = .returned (.int .i64 (or2 a b)) ∧ w' = w := by
  by_cases h1 : a = 0
  · subst h1
    by_cases h2 : b = 0
    · subst h2
      go_enter Try.func25, Try.ntmps25
      go_wp2
      refine wp_loop_rounds 3 ?_
      rw [rounds_succ]
      go_wp2
      rw [rounds_succ]
      go_wp2
      rw [rounds_succ]
      go_wp2
      go_ret
      exact ⟨by simp [or2], rfl⟩
    · have hb : (b == 0) = false := by simpa using h2
      have hb' : (b != 0) = true := by simpa using h2
      go_enter Try.func25, Try.ntmps25
      go_wp2
      refine wp_loop_rounds 2 ?_
      rw [rounds_succ]
      go_wp2
      rw [rounds_succ]
      go_wp2
      go_ret
      exact ⟨by simp [or2], rfl⟩
  · have hb : (a == 0) = false := by simpa using h1
    have hb' : (a != 0) = true := by simpa using h1
    go_enter Try.func25, Try.ntmps25
    go_wp2
    refine wp_loop_rounds 1 ?_
    rw [rounds_succ]
    go_wp2
    go_ret
    exact ⟨by simp [or2, h1], rfl⟩
end Go.Proofs.Ytamnffcafbfojaa
