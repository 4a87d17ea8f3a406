/-
  The two sums: num.Add and the reference's, each by what it answers. Condition: both arguments are of 64 bits.
-/
import Derived.Test.YtoccleegdekngaaKit
namespace Go.Proofs.Ytoccleegdekngaa
open Go.RowKit

/-- a sum, and whether it is one of 64 bits -/
def addS (a b : Int) : Int := if -9223372036854775808 ≤ a + b ∧ a + b ≤ 9223372036854775807 then a + b else 0
def addB (a b : Int) : Bool := decide (-9223372036854775808 ≤ a + b ∧ a + b ≤ 9223372036854775807)

theorem addS_in {a b : Int} (h : -9223372036854775808 ≤ a + b ∧ a + b ≤ 9223372036854775807) : addS a b = a + b := by unfold addS; rw [if_pos h]
theorem addS_out {a b : Int} (h : ¬ (-9223372036854775808 ≤ a + b ∧ a + b ≤ 9223372036854775807)) : addS a b = 0 := by unfold addS; rw [if_neg h]
theorem addB_in {a b : Int} (h : -9223372036854775808 ≤ a + b ∧ a + b ≤ 9223372036854775807) : addB a b = true := by unfold addB; simpa using h
theorem addB_out {a b : Int} (h : ¬ (-9223372036854775808 ≤ a + b ∧ a + b ≤ 9223372036854775807)) : addB a b = false := by unfold addB; simpa using h

set_option maxHeartbeats 1000000 in
theorem add_any (a b : Int) (w : World) (ha : -9223372036854775808 ≤ a) (ha' : a ≤ 9223372036854775807) (hb : -9223372036854775808 ≤ b) (hb' : b ≤ 9223372036854775807) :
    Calls Try.prog 9 #[.int .i64 a, .int .i64 b] w fun e w' => e = .returned (.tuple #[.int .i64 (addS a b), .bool (addB a b)]) ∧ w = w' := by
  rcases Int.lt_trichotomy b 0 with h | h | h
  · by_cases hs : -9223372036854775808 ≤ a + b
    · rw [addS_in ⟨hs, by omega⟩, addB_in ⟨hs, by omega⟩]
      go_enter Try.func9, Try.ntmps9
      go_wp2
      go_ret2
      exact ⟨rfl, rfl⟩
    · rw [addS_out (by omega), addB_out (by omega)]
      go_enter Try.func9, Try.ntmps9
      go_wp2
      go_ret2
      exact ⟨rfl, rfl⟩
  · subst h
    rw [addS_in ⟨by omega, by omega⟩, addB_in ⟨by omega, by omega⟩, Int.add_zero]
    go_enter Try.func9, Try.ntmps9
    go_wp2
    go_ret2
    exact ⟨rfl, rfl⟩
  · by_cases hs : a + b ≤ 9223372036854775807
    · rw [addS_in ⟨by omega, hs⟩, addB_in ⟨by omega, hs⟩]
      go_enter Try.func9, Try.ntmps9
      go_wp2
      go_ret2
      exact ⟨rfl, rfl⟩
    · rw [addS_out (by omega), addB_out (by omega)]
      go_enter Try.func9, Try.ntmps9
      go_wp2
      go_ret2
      exact ⟨rfl, rfl⟩

set_option maxHeartbeats 1000000 in
theorem radd_any (a b : Int) (w : World) (ha : -9223372036854775808 ≤ a) (ha' : a ≤ 9223372036854775807) (hb : -9223372036854775808 ≤ b) (hb' : b ≤ 9223372036854775807) :
    Calls Try.prog 10 #[.int .i64 a, .int .i64 b] w fun e w' => e = .returned (.tuple #[.int .i64 (addS a b), .bool (addB a b)]) ∧ w = w' := by
  go_enter Try.func10, Try.ntmps10
  go_wp2
  all_goals
    go_ret2
    refine ⟨ret_ib ?_ ?_, rfl⟩
    · try simp only [wrap64_eq, IntKind.wrap_u64] at *
      unfold addS; split <;> omega
    · try simp only [wrap64_eq, IntKind.wrap_u64] at *
      unfold addB; symm; simp; omega

end Go.Proofs.Ytoccleegdekngaa
