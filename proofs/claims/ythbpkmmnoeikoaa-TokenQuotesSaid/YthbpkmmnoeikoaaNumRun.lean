/-
  num.run: how many digits stand at a place of a text. Condition: the place is none behind the text's end.
-/
import Derived.Test.YthbpkmmnoeikoaaKit
import Derived.Test.YthbpkmmnoeikoaaNumSpec
namespace Go.Proofs.Ythbpkmmnoeikoaa
open Go.RowKit

theorem run_le : ∀ l : List UInt8, Nm.run l ≤ l.length
  | [] => Nat.le_refl _
  | c :: l => by
    have := run_le l
    unfold Nm.run
    split <;> simp <;> omega

theorem drop_cons (s : ByteArray) (k : Nat) (h : k < s.size) : s.data.toList.drop k = s[k] :: s.data.toList.drop (k + 1) := by
  rw [List.drop_eq_getElem_cons (by rw [len_data]; exact h)]; rfl

theorem run_at (s : ByteArray) (k : Nat) (h : k < s.size) : Nm.run (s.data.toList.drop k) = if Nm.dig s[k] then Nm.run (s.data.toList.drop (k + 1)) + 1 else 0 := by
  rw [drop_cons s k h]; rfl
theorem run_end (s : ByteArray) (k : Nat) (h : s.size ≤ k) : Nm.run (s.data.toList.drop k) = 0 := by
  rw [List.drop_eq_nil_of_le (by rw [len_data]; exact h)]; rfl

set_option maxHeartbeats 400000 in
theorem run_any (s : ByteArray) (p : Int) (w : World) (h0 : 0 ≤ p) (hp : p ≤ s.size) (hs : s.size ≤ 4611686018427387904) :
    Calls Try.prog 43 #[.string s, .int .i64 p] w fun e w' => e = .returned (.int .i64 (Nm.run (s.data.toList.drop p.toNat))) ∧ w = w' := by
  obtain ⟨at0, rfl⟩ := Int.eq_ofNat_of_zero_le h0
  rw [Int.toNat_natCast]
  have hp' : at0 ≤ s.size := by omega
  clear hp h0
  go_enter Try.func43, Try.ntmps43
  go_wp2
  go_loop [5] (fun n => ∃ k : Nat, at0 + k ≤ s.size ∧ n = .int .i64 k ∧ Hid (Nm.run (s.data.toList.drop at0) = k + Nm.run (s.data.toList.drop (at0 + k)))) (fun n => s.size - (intOf n).toNat)
  case atStart => exact ⟨0, by omega, rfl, by unfold Hid; simp⟩
  case round =>
    obtain ⟨k, hk, rfl, HR⟩ := hrel
    by_cases hlt : at0 + k < s.size
    · by_cases h48 : 48 ≤ (s[at0 + k].toNat : Int)
      · by_cases h57 : (s[at0 + k].toNat : Int) ≤ 57
        · go_wp2
          go_round
          case rel =>
            refine ⟨k + 1, by omega, by go_num, ?_⟩
            unfold Hid
            have hd : Nm.dig s[at0 + k] = true := by unfold Nm.dig; simp; omega
            rw [HR.out, run_at s (at0 + k) hlt, if_pos hd, Nat.add_assoc at0 k 1]; omega
          case measure => simp [intOf]; omega
        · go_wp2
          go_ret
          have hd : Nm.dig s[at0 + k] = false := by unfold Nm.dig; simp; omega
          exact ⟨ret_i (by rw [HR.out, run_at s (at0 + k) hlt, hd]; simp), rfl⟩
      · go_wp2
        go_ret
        have hd : Nm.dig s[at0 + k] = false := by unfold Nm.dig; simp; omega
        exact ⟨ret_i (by rw [HR.out, run_at s (at0 + k) hlt, hd]; simp), rfl⟩
    · go_wp2
      go_ret
      exact ⟨ret_i (by rw [HR.out, run_end s (at0 + k) (by omega)]; simp), rfl⟩

end Go.Proofs.Ythbpkmmnoeikoaa
