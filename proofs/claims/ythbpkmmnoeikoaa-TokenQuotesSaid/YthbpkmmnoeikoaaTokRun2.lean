/-
  token.run: the longest row of bytes that a test takes (each of four tests). Condition: the text is no longer than an int.
-/
import Derived.Test.YthbpkmmnoeikoaaTokRun
namespace Go.Proofs.Ythbpkmmnoeikoaa
open Go Go.RowKit
set_option linter.unusedVariables false
set_option linter.unusedSimpArgs false

def RunR (sp : Nat) (w0 : World) (v : Value) (w : World) : Prop := ∃ n : Nat, n ≤ sp ∧ v = .int .i64 (n : Int) ∧ w = w0

set_option maxRecDepth 100000 in
theorem run_digit (s : ByteArray) (w : World) (hs : s.size ≤ maxLen) :
    Calls Try.prog 64 #[.string s, .func (.func 68) #[] #[]] w fun e w' => e = .returned (.string (s.extract 0 (Tk.span Tk.dig s.data.toList))) ∧ w' = w := by
  have HC := Lib.hid (fun c W => digit_any c W)
  have hs2 : s.size ≤ 9223372036854775807 := hs
  have hle := Tk.span_le Tk.dig s.data.toList
  have hst : ∀ n, n ≤ Tk.span Tk.dig s.data.toList → ∀ (h : n < s.size), (Tk.dig s[n] = true → n + 1 ≤ Tk.span Tk.dig s.data.toList) ∧ (Tk.dig s[n] = false → Tk.span Tk.dig s.data.toList = n) := fun n h hl => Tk.span_step Tk.dig s.data.toList n h (by rw [len_data]; exact hl)
  rw [len_data] at hle
  have HS := Lib.hid hst
  clear hst
  generalize Tk.span Tk.dig s.data.toList = sp at *
  go_enter Try.func64, Try.ntmps64
  go_wp2
  go_loopw [5] (RunR sp w) (fun v _ => s.size - (intOf v).toNat)
  case atStart => exact ⟨0, Nat.zero_le _, by go_num, rfl⟩
  case round =>
    obtain ⟨n, hn, rfl, rfl⟩ := hrel
    by_cases hlt : n < s.size
    · have tl : decide ((n : Int) < (s.size : Int)) = true := decide_eq_true (by omega)
      have hp := HS.out n hn hlt
      have hcc := HC.out s[n]
      cases hd : Tk.dig s[n] with
      | true =>
        rw [hd] at hcc
        have hn2 := hp.1 hd
        have HCC := Lib.hid hcc
        clear hcc hp hd
        go_wp2_with (go_at_call 68; refine (HCC.out _).mono ?_; rintro e w1 ⟨rfl, rfl⟩)
        go_roundw
        case rel => exact ⟨n + 1, hn2, by go_num, rfl⟩
        case measure => simp [intOf]; omega
      | false =>
        rw [hd] at hcc
        have hn2 := hp.2 hd
        subst hn2
        have HCC := Lib.hid hcc
        clear hcc hp hd
        go_wp2_with (go_at_call 68; refine (HCC.out _).mono ?_; rintro e w1 ⟨rfl, rfl⟩)
        go_ret
        exact ⟨rfl, rfl⟩
    · obtain rfl : n = sp := by omega
      have tl : decide ((n : Int) < (s.size : Int)) = false := decide_eq_false (by omega)
      go_wp2
      go_ret
      exact ⟨rfl, rfl⟩

set_option maxRecDepth 100000 in
theorem run_letter (s : ByteArray) (w : World) (hs : s.size ≤ maxLen) :
    Calls Try.prog 64 #[.string s, .func (.func 71) #[] #[]] w fun e w' => e = .returned (.string (s.extract 0 (Tk.span Tk.let' s.data.toList))) ∧ w' = w := by
  have HC := Lib.hid (fun c W => letter_any c W)
  have hs2 : s.size ≤ 9223372036854775807 := hs
  have hle := Tk.span_le Tk.let' s.data.toList
  have hst : ∀ n, n ≤ Tk.span Tk.let' s.data.toList → ∀ (h : n < s.size), (Tk.let' s[n] = true → n + 1 ≤ Tk.span Tk.let' s.data.toList) ∧ (Tk.let' s[n] = false → Tk.span Tk.let' s.data.toList = n) := fun n h hl => Tk.span_step Tk.let' s.data.toList n h (by rw [len_data]; exact hl)
  rw [len_data] at hle
  have HS := Lib.hid hst
  clear hst
  generalize Tk.span Tk.let' s.data.toList = sp at *
  go_enter Try.func64, Try.ntmps64
  go_wp2
  go_loopw [5] (RunR sp w) (fun v _ => s.size - (intOf v).toNat)
  case atStart => exact ⟨0, Nat.zero_le _, by go_num, rfl⟩
  case round =>
    obtain ⟨n, hn, rfl, rfl⟩ := hrel
    by_cases hlt : n < s.size
    · have tl : decide ((n : Int) < (s.size : Int)) = true := decide_eq_true (by omega)
      have hp := HS.out n hn hlt
      have hcc := HC.out s[n]
      cases hd : Tk.let' s[n] with
      | true =>
        rw [hd] at hcc
        have hn2 := hp.1 hd
        have HCC := Lib.hid hcc
        clear hcc hp hd
        go_wp2_with (go_at_call 71; refine (HCC.out _).mono ?_; rintro e w1 ⟨rfl, rfl⟩)
        go_roundw
        case rel => exact ⟨n + 1, hn2, by go_num, rfl⟩
        case measure => simp [intOf]; omega
      | false =>
        rw [hd] at hcc
        have hn2 := hp.2 hd
        subst hn2
        have HCC := Lib.hid hcc
        clear hcc hp hd
        go_wp2_with (go_at_call 71; refine (HCC.out _).mono ?_; rintro e w1 ⟨rfl, rfl⟩)
        go_ret
        exact ⟨rfl, rfl⟩
    · obtain rfl : n = sp := by omega
      have tl : decide ((n : Int) < (s.size : Int)) = false := decide_eq_false (by omega)
      go_wp2
      go_ret
      exact ⟨rfl, rfl⟩

set_option maxRecDepth 100000 in
theorem run_blank (s : ByteArray) (w : World) (hs : s.size ≤ maxLen) :
    Calls Try.prog 64 #[.string s, .func (.func 65) #[] #[]] w fun e w' => e = .returned (.string (s.extract 0 (Tk.span Tk.blank s.data.toList))) ∧ w' = w := by
  have HC := Lib.hid (fun c W => blank_any c W)
  have hs2 : s.size ≤ 9223372036854775807 := hs
  have hle := Tk.span_le Tk.blank s.data.toList
  have hst : ∀ n, n ≤ Tk.span Tk.blank s.data.toList → ∀ (h : n < s.size), (Tk.blank s[n] = true → n + 1 ≤ Tk.span Tk.blank s.data.toList) ∧ (Tk.blank s[n] = false → Tk.span Tk.blank s.data.toList = n) := fun n h hl => Tk.span_step Tk.blank s.data.toList n h (by rw [len_data]; exact hl)
  rw [len_data] at hle
  have HS := Lib.hid hst
  clear hst
  generalize Tk.span Tk.blank s.data.toList = sp at *
  go_enter Try.func64, Try.ntmps64
  go_wp2
  go_loopw [5] (RunR sp w) (fun v _ => s.size - (intOf v).toNat)
  case atStart => exact ⟨0, Nat.zero_le _, by go_num, rfl⟩
  case round =>
    obtain ⟨n, hn, rfl, rfl⟩ := hrel
    by_cases hlt : n < s.size
    · have tl : decide ((n : Int) < (s.size : Int)) = true := decide_eq_true (by omega)
      have hp := HS.out n hn hlt
      have hcc := HC.out s[n]
      cases hd : Tk.blank s[n] with
      | true =>
        rw [hd] at hcc
        have hn2 := hp.1 hd
        have HCC := Lib.hid hcc
        clear hcc hp hd
        go_wp2_with (go_at_call 65; refine (HCC.out _).mono ?_; rintro e w1 ⟨rfl, rfl⟩)
        go_roundw
        case rel => exact ⟨n + 1, hn2, by go_num, rfl⟩
        case measure => simp [intOf]; omega
      | false =>
        rw [hd] at hcc
        have hn2 := hp.2 hd
        subst hn2
        have HCC := Lib.hid hcc
        clear hcc hp hd
        go_wp2_with (go_at_call 65; refine (HCC.out _).mono ?_; rintro e w1 ⟨rfl, rfl⟩)
        go_ret
        exact ⟨rfl, rfl⟩
    · obtain rfl : n = sp := by omega
      have tl : decide ((n : Int) < (s.size : Int)) = false := decide_eq_false (by omega)
      go_wp2
      go_ret
      exact ⟨rfl, rfl⟩

set_option maxRecDepth 100000 in
theorem run_numc (s : ByteArray) (w : World) (hs : s.size ≤ maxLen) :
    Calls Try.prog 64 #[.string s, .func (.func 69) #[] #[]] w fun e w' => e = .returned (.string (s.extract 0 (Tk.span Tk.numc s.data.toList))) ∧ w' = w := by
  have HC := Lib.hid (fun c W => numc_any c W)
  have hs2 : s.size ≤ 9223372036854775807 := hs
  have hle := Tk.span_le Tk.numc s.data.toList
  have hst : ∀ n, n ≤ Tk.span Tk.numc s.data.toList → ∀ (h : n < s.size), (Tk.numc s[n] = true → n + 1 ≤ Tk.span Tk.numc s.data.toList) ∧ (Tk.numc s[n] = false → Tk.span Tk.numc s.data.toList = n) := fun n h hl => Tk.span_step Tk.numc s.data.toList n h (by rw [len_data]; exact hl)
  rw [len_data] at hle
  have HS := Lib.hid hst
  clear hst
  generalize Tk.span Tk.numc s.data.toList = sp at *
  go_enter Try.func64, Try.ntmps64
  go_wp2
  go_loopw [5] (RunR sp w) (fun v _ => s.size - (intOf v).toNat)
  case atStart => exact ⟨0, Nat.zero_le _, by go_num, rfl⟩
  case round =>
    obtain ⟨n, hn, rfl, rfl⟩ := hrel
    by_cases hlt : n < s.size
    · have tl : decide ((n : Int) < (s.size : Int)) = true := decide_eq_true (by omega)
      have hp := HS.out n hn hlt
      have hcc := HC.out s[n]
      cases hd : Tk.numc s[n] with
      | true =>
        rw [hd] at hcc
        have hn2 := hp.1 hd
        have HCC := Lib.hid hcc
        clear hcc hp hd
        go_wp2_with (go_at_call 69; refine (HCC.out _).mono ?_; rintro e w1 ⟨rfl, rfl⟩)
        go_roundw
        case rel => exact ⟨n + 1, hn2, by go_num, rfl⟩
        case measure => simp [intOf]; omega
      | false =>
        rw [hd] at hcc
        have hn2 := hp.2 hd
        subst hn2
        have HCC := Lib.hid hcc
        clear hcc hp hd
        go_wp2_with (go_at_call 69; refine (HCC.out _).mono ?_; rintro e w1 ⟨rfl, rfl⟩)
        go_ret
        exact ⟨rfl, rfl⟩
    · obtain rfl : n = sp := by omega
      have tl : decide ((n : Int) < (s.size : Int)) = false := decide_eq_false (by omega)
      go_wp2
      go_ret
      exact ⟨rfl, rfl⟩

end Go.Proofs.Ythbpkmmnoeikoaa
