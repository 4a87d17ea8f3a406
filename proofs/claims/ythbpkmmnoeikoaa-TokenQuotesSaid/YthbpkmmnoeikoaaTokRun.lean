/-
  token.digit, letter, the two closures of Next, and run: the longest row of bytes that a test takes. Condition: the text is no longer than an int.
-/
import Derived.Test.YthbpkmmnoeikoaaTokSpec
import Derived.Test.YthbpkmmnoeikoaaShelfM
namespace Go.Proofs.Ythbpkmmnoeikoaa
open Go Go.RowKit
set_option linter.unusedVariables false
set_option linter.unusedSimpArgs false

theorem digit_any (c : UInt8) (w : World) : Calls Try.prog 68 #[.int .u8 (c.toNat : Int)] w fun e w' => e = .returned (.bool (Tk.dig c)) ∧ w' = w := by
  unfold Tk.dig
  rcases (by omega : c.toNat < 48 ∨ (48 ≤ c.toNat ∧ c.toNat ≤ 57) ∨ 57 < c.toNat) with h | h | h <;>
  · go_enter Try.func68, Try.ntmps68
    go_wp2
    go_ret
    exact ⟨ret_b (by rw [Bool.eq_iff_iff]; simp; try omega), rfl⟩

theorem or32 (c : UInt8) : bits .or .u8 (c.toNat : Int) 32 = ((c.toNat ||| 32 : Nat) : Int) := u8_or_nat c.toNat 32 c.toNat_lt (by decide)
theorem or32_let : ∀ n : Nat, n < 256 → ((97 ≤ n ||| 32 ∧ n ||| 32 ≤ 122) ↔ ((97 ≤ n ∧ n ≤ 122) ∨ (65 ≤ n ∧ n ≤ 90))) := by decide +kernel
theorem letter_any (c : UInt8) (w : World) : Calls Try.prog 71 #[.int .u8 (c.toNat : Int)] w fun e w' => e = .returned (.bool (Tk.let' c)) ∧ w' = w := by
  have h1 := or32 c
  have h2 := or32_let c.toNat c.toNat_lt
  have hl : Tk.let' c = decide (97 ≤ c.toNat ||| 32 ∧ c.toNat ||| 32 ≤ 122) := by unfold Tk.let'; congr 1; exact propext h2.symm
  rw [hl]
  clear hl h2
  generalize c.toNat ||| 32 = m at *
  rcases (by omega : m < 97 ∨ (97 ≤ m ∧ m ≤ 122) ∨ 122 < m) with h | h | h <;>
  · go_enter Try.func71, Try.ntmps71
    go_wp2
    go_ret
    exact ⟨ret_b (by rw [Bool.eq_iff_iff]; simp; try omega), rfl⟩

theorem blank_any (c : UInt8) (w : World) : Calls Try.prog 65 #[.int .u8 (c.toNat : Int)] w fun e w' => e = .returned (.bool (Tk.blank c)) ∧ w' = w := by
  have hb : Tk.blank c = (((((c.toNat : Int) == 32) || ((c.toNat : Int) == 9)) || ((c.toNat : Int) == 10)) || ((c.toNat : Int) == 13)) := by
    have h : ∀ d : UInt8, ∀ n : Nat, d.toNat = n → (c == d) = ((c.toNat : Int) == (n : Int)) := by
      intro d n hd
      by_cases hc : c = d
      · subst hc; rw [hd]; simp
      · have h1 : (c == d) = false := beq_eq_false_iff_ne.2 hc
        have h2 : ((c.toNat : Int) == (n : Int)) = false := by rw [beq_eq_false_iff_ne]; intro e; exact hc (UInt8.toNat_inj.1 (by omega))
        rw [h1, h2]
    unfold Tk.blank
    rw [h 32 32 rfl, h 9 9 rfl, h 10 10 rfl, h 13 13 rfl]; rfl
  rw [hb]
  clear hb
  rcases (by omega : (c.toNat : Int) = 32 ∨ (c.toNat : Int) = 9 ∨ (c.toNat : Int) = 10 ∨ (c.toNat : Int) = 13 ∨ ((c.toNat : Int) ≠ 32 ∧ (c.toNat : Int) ≠ 9 ∧ (c.toNat : Int) ≠ 10 ∧ (c.toNat : Int) ≠ 13)) with h | h | h | h | ⟨h1, h2, h3, h4⟩
  · rw [h]
    go_enter Try.func65, Try.ntmps65
    go_wp2
    go_ret
    exact ⟨rfl, rfl⟩
  · rw [h]
    go_enter Try.func65, Try.ntmps65
    go_wp2
    go_ret
    exact ⟨rfl, rfl⟩
  · rw [h]
    go_enter Try.func65, Try.ntmps65
    go_wp2
    go_ret
    exact ⟨rfl, rfl⟩
  · rw [h]
    go_enter Try.func65, Try.ntmps65
    go_wp2
    go_ret
    exact ⟨rfl, rfl⟩
  · have t1 : ((c.toNat : Int) == 32) = false := beq_eq_false_iff_ne.2 h1
    have t2 : ((c.toNat : Int) == 9) = false := beq_eq_false_iff_ne.2 h2
    have t3 : ((c.toNat : Int) == 10) = false := beq_eq_false_iff_ne.2 h3
    have t4 : ((c.toNat : Int) == 13) = false := beq_eq_false_iff_ne.2 h4
    rw [t1, t2, t3, t4]
    clear h1 h2 h3 h4
    go_enter Try.func65, Try.ntmps65
    go_wp2
    go_ret
    exact ⟨rfl, rfl⟩

theorem numc_ix : ∀ n : Nat, n < 256 → (decide (Lib.indexByte [45, 43, 46, 101, 69] (UInt8.ofNat n) ≥ 0)) = (UInt8.ofNat n == 45 || UInt8.ofNat n == 43 || UInt8.ofNat n == 46 || UInt8.ofNat n == 101 || UInt8.ofNat n == 69) := by decide +kernel
theorem numc_any (c : UInt8) (w : World) : Calls Try.prog 69 #[.int .u8 (c.toNat : Int)] w fun e w' => e = .returned (.bool (Tk.numc c)) ∧ w' = w := by
  have HD := Lib.hid (fun W => digit_any c W)
  have HI := Lib.hid (fun W => Try.strings_IndexByte ⟨#[45, 43, 46, 101, 69]⟩ (c.toNat : Int) W)
  have hix := numc_ix c.toNat c.toNat_lt
  have hc : UInt8.ofNat c.toNat = c := by simp
  rw [hc] at hix
  have hc2 : ((c.toNat : Int)).toNat.toUInt8 = c := by simp
  rw [hc2] at HI
  have hn : Tk.numc c = (Tk.dig c || decide (Lib.indexByte [45, 43, 46, 101, 69] c ≥ 0)) := by rw [hix]; unfold Tk.numc; simp [Bool.or_assoc]
  rw [hn]
  clear hix hn hc hc2
  change Hid (∀ W, Calls _ _ _ W fun e w' => e = .returned (.int .i64 (Lib.indexByte [45, 43, 46, 101, 69] c)) ∧ w' = W) at HI
  generalize Lib.indexByte [45, 43, 46, 101, 69] c = k at *
  cases hd : Tk.dig c with
  | true =>
    rw [hd] at HD
    go_enter Try.func69, Try.ntmps69
    go_wp2_with (go_at_call 68; refine (HD.out _).mono ?_; rintro e w1 ⟨rfl, rfl⟩)
    go_ret
    exact ⟨rfl, rfl⟩
  | false =>
    rw [hd] at HD
    go_enter Try.func69, Try.ntmps69
    go_wp2_with (first | (go_at_call 68; refine (HD.out _).mono ?_; rintro e w1 ⟨rfl, rfl⟩) | (go_at_call 66; refine (HI.out _).mono ?_; rintro e w1 ⟨rfl, rfl⟩))
    go_ret
    exact ⟨ret_b (by simp), rfl⟩

end Go.Proofs.Ythbpkmmnoeikoaa
