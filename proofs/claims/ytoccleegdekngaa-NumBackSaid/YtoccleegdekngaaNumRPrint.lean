/-
  The reference's Print: a number's digits, by a function that calls itself. Condition: the number is of 64 bits.
-/
import Derived.Test.YtoccleegdekngaaKit
import Derived.Test.YtoccleegdekngaaNumSpec
import Derived.Deep.RegionWith
namespace Go.Proofs.Ytoccleegdekngaa
open Go.RowKit

def prF (f : Nat) (n : Int) : List UInt8 := (if n < 0 then [45] else []) ++ (Nm.rd f n.natAbs).reverse

theorem prF_len (f : Nat) (n : Int) : (prF f n).length ≤ f + 1 := by
  have := Nm.rd_len f n.natAbs
  unfold prF
  split <;> simp <;> omega
theorem prF_sz (f : Nat) (n : Int) : (bs (prF f n)).size ≤ f + 1 := by rw [bs_size]; exact prF_len f n

set_option maxHeartbeats 400000 in
theorem rprint_neg (k f : Nat) (w : World) (hk : 10 ≤ k) (hk2 : k ≤ 9223372036854775808) (hf : f ≤ 20)
    (ih : ∀ w : World, Calls Try.prog 12 #[.int .i64 (-((k : Int) / 10))] w fun e w' => e = .returned (str (prF f (-((k : Int) / 10)))) ∧ Below w.heap.size w w') :
    Calls Try.prog 12 #[.int .i64 (-(k : Int))] w fun e w' => e = .returned (str (prF f (-((k : Int) / 10)) ++ [byte (48 + (k : Int) % 10)])) ∧ Below w.heap.size w w' := by
  have hcv := run_string_one
  have hsz := prF_sz f (-((k : Int) / 10))
  have hsz1 : ∀ c : UInt8, (bs [c]).size = 1 := fun c => bs_size [c]
  have h0 : decide ((k : Int) < 10) = false := by simp; omega
  have h1 : IntKind.i64.wrap (-((k : Int) / 10)) = -((k : Int) / 10) := IntWalk.i64_in _ (by omega)
  have h2 : (k : Int).tmod 10 = (k : Int) % 10 := Int.tmod_eq_emod_of_nonneg (by omega)
  have h3 : IntKind.i64.wrap (48 + (k : Int) % 10) = 48 + (k : Int) % 10 := IntWalk.i64_in _ (by omega)
  have h4 : IntKind.u8.wrap (48 + (k : Int) % 10) = 48 + (k : Int) % 10 := by rw [IntKind.wrap_u8]; omega
  have IH := Lib.hid ih
  clear ih
  go_enter Try.func12, Try.ntmps12
  go_wp2_with fail
  go_region_with (go_at_call 12; refine (IH.out _).mono ?_; rintro e w1 ⟨rfl, hb⟩; obtain ⟨hc, hf⟩ := bcell hb; have hz := hb.size)
  all_goals
    go_wp2
    go_ret
    rw [bs_append]
    refine ⟨rfl, ?_⟩
  · exact (((Below.refl _ _).drew).trans hb).alloc hz _
  · exact (((Below.refl _ _).alloc (Nat.le_refl _) _).drew).trans (hb.mono (by simp))
  · exact (((Below.refl _ _).alloc (Nat.le_refl _) _).drew).trans (hb.mono (by simp))

set_option maxHeartbeats 400000 in
theorem rprint_pos (k f : Nat) (w : World) (hk : 10 ≤ k) (hk2 : k ≤ 9223372036854775807) (hf : f ≤ 20)
    (ih : ∀ w : World, Calls Try.prog 12 #[.int .i64 ((k : Int) / 10)] w fun e w' => e = .returned (str (prF f ((k : Int) / 10))) ∧ Below w.heap.size w w') :
    Calls Try.prog 12 #[.int .i64 (k : Int)] w fun e w' => e = .returned (str (prF f ((k : Int) / 10) ++ [byte (48 + (k : Int) % 10)])) ∧ Below w.heap.size w w' := by
  have hcv := run_string_one
  have hsz := prF_sz f ((k : Int) / 10)
  have hsz1 : ∀ c : UInt8, (bs [c]).size = 1 := fun c => bs_size [c]
  have h0 : decide ((k : Int) < 10) = false := by simp; omega
  have h1 : IntKind.i64.wrap ((k : Int) / 10) = (k : Int) / 10 := IntWalk.i64_in _ (by omega)
  have h2 : (k : Int).tmod 10 = (k : Int) % 10 := Int.tmod_eq_emod_of_nonneg (by omega)
  have h3 : IntKind.i64.wrap (48 + (k : Int) % 10) = 48 + (k : Int) % 10 := IntWalk.i64_in _ (by omega)
  have h4 : IntKind.u8.wrap (48 + (k : Int) % 10) = 48 + (k : Int) % 10 := by rw [IntKind.wrap_u8]; omega
  have IH := Lib.hid ih
  clear ih
  go_enter Try.func12, Try.ntmps12
  go_wp2_with fail
  go_region_with (go_at_call 12; refine (IH.out _).mono ?_; rintro e w1 ⟨rfl, hb⟩; obtain ⟨hc, hf⟩ := bcell hb; have hz := hb.size)
  all_goals
    go_wp2
    go_ret
    rw [bs_append]
    refine ⟨rfl, ?_⟩
  · exact (((Below.refl _ _).drew).trans hb).alloc hz _
  · exact (((Below.refl _ _).alloc (Nat.le_refl _) _).drew).trans (hb.mono (by simp))
  · exact (((Below.refl _ _).alloc (Nat.le_refl _) _).drew).trans (hb.mono (by simp))

theorem byte_ch (k : Nat) : byte (48 + (k : Int) % 10) = Nm.ch (k % 10) := by
  unfold byte Nm.ch
  rw [show (48 + (k : Int) % 10).toNat = 48 + k % 10 from by omega]
theorem prF_pos (f k : Nat) (h : 10 ≤ k) : prF (f + 1) (k : Int) = prF f ((k : Int) / 10) ++ [Nm.ch (k % 10)] := by
  unfold prF
  rw [if_neg (by omega), if_neg (by omega), show ((k : Int)).natAbs = k from by omega, show ((k : Int) / 10).natAbs = k / 10 from by omega, Nm.rd, if_neg (by omega)]
  simp
theorem prF_neg (f k : Nat) (h : 10 ≤ k) : prF (f + 1) (-(k : Int)) = prF f (-((k : Int) / 10)) ++ [Nm.ch (k % 10)] := by
  unfold prF
  rw [if_pos (by omega), if_pos (by omega), show (-(k : Int)).natAbs = k from by omega, show (-((k : Int) / 10)).natAbs = k / 10 from by omega, Nm.rd, if_neg (by omega)]
  simp

set_option maxHeartbeats 400000 in
theorem rprint_sneg (k f : Nat) (w : World) (h1 : 1 ≤ k) (hk : k < 10) :
    Calls Try.prog 12 #[.int .i64 (-(k : Int))] w fun e w' => e = .returned (str (prF (f + 1) (-(k : Int)))) ∧ Below w.heap.size w w' := by
  have hcv := run_string_one
  have hsz1 : ∀ c : UInt8, (bs [c]).size = 1 := fun c => bs_size [c]
  have e : prF (f + 1) (-(k : Int)) = [45] ++ [byte (48 + (k : Int))] := by
    unfold prF byte Nm.rd Nm.ch
    rw [if_pos (by omega), show (-(k : Int)).natAbs = k from by omega, if_pos (by omega), show (48 + (k : Int)).toNat = 48 + k from by omega, Nat.mod_eq_of_lt hk]
    simp
  have E := Lib.hid e
  clear e
  go_enter Try.func12, Try.ntmps12
  go_wp2
  go_ret
  exact ⟨ret_s (by rw [E.out, ← bs_append]; rfl), (Below.refl _ _).alloc (Nat.le_refl _) _⟩

set_option maxHeartbeats 400000 in
theorem rprint_spos (k f : Nat) (w : World) (hk : k < 10) :
    Calls Try.prog 12 #[.int .i64 (k : Int)] w fun e w' => e = .returned (str (prF (f + 1) (k : Int))) ∧ Below w.heap.size w w' := by
  have hcv := run_string_one
  have e : prF (f + 1) (k : Int) = [byte (48 + (k : Int))] := by
    unfold prF byte Nm.rd Nm.ch
    rw [if_neg (by omega), show (k : Int).natAbs = k from by omega, if_pos (by omega), show (48 + (k : Int)).toNat = 48 + k from by omega, Nat.mod_eq_of_lt hk]
    simp
  have E := Lib.hid e
  clear e
  go_enter Try.func12, Try.ntmps12
  go_wp2
  go_ret
  rw [E.out]
  exact ⟨rfl, (Below.refl _ _).alloc (Nat.le_refl _) _⟩

theorem rprint_all (f : Nat) : ∀ (n : Int) (w : World), n.natAbs < 10 ^ (f + 1) → f < 20 → -9223372036854775808 ≤ n → n ≤ 9223372036854775807 →
    Calls Try.prog 12 #[.int .i64 n] w fun e w' => e = .returned (str (prF (f + 1) n)) ∧ Below w.heap.size w w' := by
  induction f with
  | zero =>
    intro n w hn _ h1 h2
    simp at hn
    rcases Int.lt_or_le n 0 with h | h
    · obtain ⟨k, rfl⟩ : ∃ k : Nat, n = -(k : Int) := ⟨n.natAbs, by omega⟩
      exact rprint_sneg k 0 w (by omega) (by omega)
    · obtain ⟨k, rfl⟩ := Int.eq_ofNat_of_zero_le h
      exact rprint_spos k 0 w (by omega)
  | succ f ih =>
    intro n w hn hf h1 h2
    rw [Nat.pow_succ] at hn
    rcases Int.lt_or_le n 0 with h | h
    · obtain ⟨k, rfl⟩ : ∃ k : Nat, n = -(k : Int) := ⟨n.natAbs, by omega⟩
      by_cases hk : k < 10
      · exact rprint_sneg k (f + 1) w (by omega) hk
      · have := rprint_neg k (f + 1) w (by omega) (by omega) (by omega) (fun w => ih _ w (by omega) (by omega) (by omega) (by omega))
        rw [prF_neg (f + 1) k (by omega), ← byte_ch]; exact this
    · obtain ⟨k, rfl⟩ := Int.eq_ofNat_of_zero_le h
      by_cases hk : k < 10
      · exact rprint_spos k (f + 1) w hk
      · have := rprint_pos k (f + 1) w (by omega) (by omega) (by omega) (fun w => ih _ w (by omega) (by omega) (by omega) (by omega))
        rw [prF_pos (f + 1) k (by omega), ← byte_ch]; exact this

/-- the reference's Print: a number's digits -/
theorem rprint_any (n : Int) (w : World) (h1 : -9223372036854775808 ≤ n) (h2 : n ≤ 9223372036854775807) :
    Calls Try.prog 12 #[.int .i64 n] w fun e w' => e = .returned (str (Nm.pr n)) ∧ Below w.heap.size w w' :=
  rprint_all 19 n w (Nm.natAbs_lt h1 h2) (by omega) h1 h2

end Go.Proofs.Ytoccleegdekngaa
