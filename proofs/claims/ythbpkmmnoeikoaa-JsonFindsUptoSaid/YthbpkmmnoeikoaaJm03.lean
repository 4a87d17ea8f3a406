/-
  Several texts in one, each with its own head below. Conditions: as each says.
-/
import Derived.Test.YthbpkmmnoeikoaaJm02
import Derived.Test.YthbpkmmnoeikoaaJm01
import Derived.LoopN
import Derived.Deep.OwnRows
/-
  token.run: the longest row of bytes that a test takes (each of four tests). Condition: the text is no longer than an int.
-/
namespace Go.Proofs.Ythbpkmmnoeikoaa
open Go Go.RowKit
set_option linter.unusedVariables false
set_option linter.unusedSimpArgs false

def RunR (sp : Nat) (w0 : World) (v : Value) (w : World) : Prop := ∃ n : Nat, n ≤ sp ∧ v = .int .i64 (n : Int) ∧ w = w0

set_option maxRecDepth 100000 in
theorem run_digit (s : ByteArray) (w : World) (hs : s.size ≤ maxLen) :
    Calls Try.prog 64 #[.string s, .func (.func 68) #[] #[]] w fun e w' => e = .returned (.string (s.extract 0 (Tk.span Tk.dig s.data.toList))) ∧ w' = w := by
  have HC := Lib.hid (fun c W => digit_any c W)
  have hs2 : s.size ≤ 9223372036854775807 := hs
  have hle := Tk.span_le Tk.dig s.data.toList
  have hst : ∀ n, n ≤ Tk.span Tk.dig s.data.toList → ∀ (h : n < s.size), (Tk.dig s[n] = true → n + 1 ≤ Tk.span Tk.dig s.data.toList) ∧ (Tk.dig s[n] = false → Tk.span Tk.dig s.data.toList = n) := fun n h hl => Tk.span_step Tk.dig s.data.toList n h (by rw [len_data]; exact hl)
  rw [len_data] at hle
  have HS := Lib.hid hst
  clear hst
  generalize Tk.span Tk.dig s.data.toList = sp at *
  go_enter Try.func64, Try.ntmps64
  go_wp2
  go_loopw [5] (RunR sp w) (fun v _ => s.size - (intOf v).toNat)
  case atStart => exact ⟨0, Nat.zero_le _, by go_num, rfl⟩
  case round =>
    obtain ⟨n, hn, rfl, rfl⟩ := hrel
    by_cases hlt : n < s.size
    · have tl : decide ((n : Int) < (s.size : Int)) = true := decide_eq_true (by omega)
      have hp := HS.out n hn hlt
      have hcc := HC.out s[n]
      cases hd : Tk.dig s[n] with
      | true =>
        rw [hd] at hcc
        have hn2 := hp.1 hd
        have HCC := Lib.hid hcc
        clear hcc hp hd
        go_wp2_with (go_at_call 68; refine (HCC.out _).mono ?_; rintro e w1 ⟨rfl, rfl⟩)
        go_roundw
        case rel => exact ⟨n + 1, hn2, by go_num, rfl⟩
        case measure => simp [intOf]; omega
      | false =>
        rw [hd] at hcc
        have hn2 := hp.2 hd
        subst hn2
        have HCC := Lib.hid hcc
        clear hcc hp hd
        go_wp2_with (go_at_call 68; refine (HCC.out _).mono ?_; rintro e w1 ⟨rfl, rfl⟩)
        go_ret
        exact ⟨rfl, rfl⟩
    · obtain rfl : n = sp := by omega
      have tl : decide ((n : Int) < (s.size : Int)) = false := decide_eq_false (by omega)
      go_wp2
      go_ret
      exact ⟨rfl, rfl⟩

set_option maxRecDepth 100000 in
theorem run_letter (s : ByteArray) (w : World) (hs : s.size ≤ maxLen) :
    Calls Try.prog 64 #[.string s, .func (.func 71) #[] #[]] w fun e w' => e = .returned (.string (s.extract 0 (Tk.span Tk.let' s.data.toList))) ∧ w' = w := by
  have HC := Lib.hid (fun c W => letter_any c W)
  have hs2 : s.size ≤ 9223372036854775807 := hs
  have hle := Tk.span_le Tk.let' s.data.toList
  have hst : ∀ n, n ≤ Tk.span Tk.let' s.data.toList → ∀ (h : n < s.size), (Tk.let' s[n] = true → n + 1 ≤ Tk.span Tk.let' s.data.toList) ∧ (Tk.let' s[n] = false → Tk.span Tk.let' s.data.toList = n) := fun n h hl => Tk.span_step Tk.let' s.data.toList n h (by rw [len_data]; exact hl)
  rw [len_data] at hle
  have HS := Lib.hid hst
  clear hst
  generalize Tk.span Tk.let' s.data.toList = sp at *
  go_enter Try.func64, Try.ntmps64
  go_wp2
  go_loopw [5] (RunR sp w) (fun v _ => s.size - (intOf v).toNat)
  case atStart => exact ⟨0, Nat.zero_le _, by go_num, rfl⟩
  case round =>
    obtain ⟨n, hn, rfl, rfl⟩ := hrel
    by_cases hlt : n < s.size
    · have tl : decide ((n : Int) < (s.size : Int)) = true := decide_eq_true (by omega)
      have hp := HS.out n hn hlt
      have hcc := HC.out s[n]
      cases hd : Tk.let' s[n] with
      | true =>
        rw [hd] at hcc
        have hn2 := hp.1 hd
        have HCC := Lib.hid hcc
        clear hcc hp hd
        go_wp2_with (go_at_call 71; refine (HCC.out _).mono ?_; rintro e w1 ⟨rfl, rfl⟩)
        go_roundw
        case rel => exact ⟨n + 1, hn2, by go_num, rfl⟩
        case measure => simp [intOf]; omega
      | false =>
        rw [hd] at hcc
        have hn2 := hp.2 hd
        subst hn2
        have HCC := Lib.hid hcc
        clear hcc hp hd
        go_wp2_with (go_at_call 71; refine (HCC.out _).mono ?_; rintro e w1 ⟨rfl, rfl⟩)
        go_ret
        exact ⟨rfl, rfl⟩
    · obtain rfl : n = sp := by omega
      have tl : decide ((n : Int) < (s.size : Int)) = false := decide_eq_false (by omega)
      go_wp2
      go_ret
      exact ⟨rfl, rfl⟩

set_option maxRecDepth 100000 in
theorem run_blank (s : ByteArray) (w : World) (hs : s.size ≤ maxLen) :
    Calls Try.prog 64 #[.string s, .func (.func 65) #[] #[]] w fun e w' => e = .returned (.string (s.extract 0 (Tk.span Tk.blank s.data.toList))) ∧ w' = w := by
  have HC := Lib.hid (fun c W => blank_any c W)
  have hs2 : s.size ≤ 9223372036854775807 := hs
  have hle := Tk.span_le Tk.blank s.data.toList
  have hst : ∀ n, n ≤ Tk.span Tk.blank s.data.toList → ∀ (h : n < s.size), (Tk.blank s[n] = true → n + 1 ≤ Tk.span Tk.blank s.data.toList) ∧ (Tk.blank s[n] = false → Tk.span Tk.blank s.data.toList = n) := fun n h hl => Tk.span_step Tk.blank s.data.toList n h (by rw [len_data]; exact hl)
  rw [len_data] at hle
  have HS := Lib.hid hst
  clear hst
  generalize Tk.span Tk.blank s.data.toList = sp at *
  go_enter Try.func64, Try.ntmps64
  go_wp2
  go_loopw [5] (RunR sp w) (fun v _ => s.size - (intOf v).toNat)
  case atStart => exact ⟨0, Nat.zero_le _, by go_num, rfl⟩
  case round =>
    obtain ⟨n, hn, rfl, rfl⟩ := hrel
    by_cases hlt : n < s.size
    · have tl : decide ((n : Int) < (s.size : Int)) = true := decide_eq_true (by omega)
      have hp := HS.out n hn hlt
      have hcc := HC.out s[n]
      cases hd : Tk.blank s[n] with
      | true =>
        rw [hd] at hcc
        have hn2 := hp.1 hd
        have HCC := Lib.hid hcc
        clear hcc hp hd
        go_wp2_with (go_at_call 65; refine (HCC.out _).mono ?_; rintro e w1 ⟨rfl, rfl⟩)
        go_roundw
        case rel => exact ⟨n + 1, hn2, by go_num, rfl⟩
        case measure => simp [intOf]; omega
      | false =>
        rw [hd] at hcc
        have hn2 := hp.2 hd
        subst hn2
        have HCC := Lib.hid hcc
        clear hcc hp hd
        go_wp2_with (go_at_call 65; refine (HCC.out _).mono ?_; rintro e w1 ⟨rfl, rfl⟩)
        go_ret
        exact ⟨rfl, rfl⟩
    · obtain rfl : n = sp := by omega
      have tl : decide ((n : Int) < (s.size : Int)) = false := decide_eq_false (by omega)
      go_wp2
      go_ret
      exact ⟨rfl, rfl⟩

set_option maxRecDepth 100000 in
theorem run_numc (s : ByteArray) (w : World) (hs : s.size ≤ maxLen) :
    Calls Try.prog 64 #[.string s, .func (.func 69) #[] #[]] w fun e w' => e = .returned (.string (s.extract 0 (Tk.span Tk.numc s.data.toList))) ∧ w' = w := by
  have HC := Lib.hid (fun c W => numc_any c W)
  have hs2 : s.size ≤ 9223372036854775807 := hs
  have hle := Tk.span_le Tk.numc s.data.toList
  have hst : ∀ n, n ≤ Tk.span Tk.numc s.data.toList → ∀ (h : n < s.size), (Tk.numc s[n] = true → n + 1 ≤ Tk.span Tk.numc s.data.toList) ∧ (Tk.numc s[n] = false → Tk.span Tk.numc s.data.toList = n) := fun n h hl => Tk.span_step Tk.numc s.data.toList n h (by rw [len_data]; exact hl)
  rw [len_data] at hle
  have HS := Lib.hid hst
  clear hst
  generalize Tk.span Tk.numc s.data.toList = sp at *
  go_enter Try.func64, Try.ntmps64
  go_wp2
  go_loopw [5] (RunR sp w) (fun v _ => s.size - (intOf v).toNat)
  case atStart => exact ⟨0, Nat.zero_le _, by go_num, rfl⟩
  case round =>
    obtain ⟨n, hn, rfl, rfl⟩ := hrel
    by_cases hlt : n < s.size
    · have tl : decide ((n : Int) < (s.size : Int)) = true := decide_eq_true (by omega)
      have hp := HS.out n hn hlt
      have hcc := HC.out s[n]
      cases hd : Tk.numc s[n] with
      | true =>
        rw [hd] at hcc
        have hn2 := hp.1 hd
        have HCC := Lib.hid hcc
        clear hcc hp hd
        go_wp2_with (go_at_call 69; refine (HCC.out _).mono ?_; rintro e w1 ⟨rfl, rfl⟩)
        go_roundw
        case rel => exact ⟨n + 1, hn2, by go_num, rfl⟩
        case measure => simp [intOf]; omega
      | false =>
        rw [hd] at hcc
        have hn2 := hp.2 hd
        subst hn2
        have HCC := Lib.hid hcc
        clear hcc hp hd
        go_wp2_with (go_at_call 69; refine (HCC.out _).mono ?_; rintro e w1 ⟨rfl, rfl⟩)
        go_ret
        exact ⟨rfl, rfl⟩
    · obtain rfl : n = sp := by omega
      have tl : decide ((n : Int) < (s.size : Int)) = false := decide_eq_false (by omega)
      go_wp2
      go_ret
      exact ⟨rfl, rfl⟩

end Go.Proofs.Ythbpkmmnoeikoaa

/-
  The program's utf.Put: a code's bytes; none of what is no code.
-/
namespace Go.Proofs.Ythbpkmmnoeikoaa
open Go Go.RowKit Go.Deep
set_option linter.unusedVariables false
set_option linter.unusedSimpArgs false

/-- a code's bytes; none of what is no code -/
def putI (c : Int) : List UInt8 := if codeI c then Uf.put c.toNat else []

theorem hi_or (h k : Nat) (c : Nat) (hk : c < 2 ^ k) (hh : h % 2 ^ k = 0) (hs : h < 4294967296) (hc : c < 4294967296) : bits .or .i64 (h : Int) (c : Int) = ((h + c : Nat) : Int) := by
  rw [i64_or_nat h c (by omega) (by omega), nat_join k h c hh hk]

theorem infoU8 : (Try.prog.info? 5).map (fun i => (i.zero, i.size, i.bytes)) = some (some (.int .u8 0), 1, 1) := by kernel_rfl
theorem make_k (k : Nat) (hk : k ≤ 4) (W : World) : (Instr.makeSlice 67 (.int .i64 (k : Int)) (.int .i64 (k : Int))).run Try.prog W = .ok (.slice (some ⟨W.heap.size, 0, none⟩) k k) (W.alloc (.cells (madeCells #[.int .u8 0] k) 5)) :=
  run_make_row' 67 5 (.int .u8 0) 1 Try.underlying67 infoU8 rfl .i64 .i64 k (by omega) (by omega) W
theorem make_1 (W : World) : (Instr.makeSlice 67 (.int .i64 1) (.int .i64 1)).run Try.prog W = .ok (.slice (some ⟨W.heap.size, 0, none⟩) 1 1) (W.alloc (.cells #[.int .u8 0] 5)) := (make_k 1 (by decide) W).trans (by rw [show madeCells #[Value.int .u8 0] 1 = #[Value.int .u8 0] from by kernel_rfl])
theorem make_2 (W : World) : (Instr.makeSlice 67 (.int .i64 2) (.int .i64 2)).run Try.prog W = .ok (.slice (some ⟨W.heap.size, 0, none⟩) 2 2) (W.alloc (.cells #[.int .u8 0, .int .u8 0] 5)) := (make_k 2 (by decide) W).trans (by rw [show madeCells #[Value.int .u8 0] 2 = #[Value.int .u8 0, Value.int .u8 0] from by kernel_rfl])
theorem make_3 (W : World) : (Instr.makeSlice 67 (.int .i64 3) (.int .i64 3)).run Try.prog W = .ok (.slice (some ⟨W.heap.size, 0, none⟩) 3 3) (W.alloc (.cells #[.int .u8 0, .int .u8 0, .int .u8 0] 5)) := (make_k 3 (by decide) W).trans (by rw [show madeCells #[Value.int .u8 0] 3 = #[Value.int .u8 0, Value.int .u8 0, Value.int .u8 0] from by kernel_rfl])
theorem make_4 (W : World) : (Instr.makeSlice 67 (.int .i64 4) (.int .i64 4)).run Try.prog W = .ok (.slice (some ⟨W.heap.size, 0, none⟩) 4 4) (W.alloc (.cells #[.int .u8 0, .int .u8 0, .int .u8 0, .int .u8 0] 5)) := (make_k 4 (by decide) W).trans (by rw [show madeCells #[Value.int .u8 0] 4 = #[Value.int .u8 0, Value.int .u8 0, Value.int .u8 0, Value.int .u8 0] from by kernel_rfl])
theorem low6 (c : Nat) (hc : c ≤ 1114111) : bits .and .i64 (c : Int) 63 = (c : Int) % 64 := by
  have := i64_and_nat c 63 (by omega) (by decide)
  rw [nat_mask6] at this
  simpa using this
theorem or128 (x : Nat) (hx : x < 64) : bits .or .i64 128 (x : Int) = 128 + (x : Int) := by
  have := hi_or 128 6 x hx (by decide) (by decide) (by omega)
  simpa using this

theorem cells_bytes (W : World) (xs : List UInt8) (cs : Array Value) (h : cs = (xs.map (fun (b : UInt8) => Value.int .u8 (b.toNat : Int))).toArray) (t : TypeId) (hm : xs.length ≤ maxLen) (k : Nat) (hk : k = xs.length) : BytesV (W.alloc (.cells cs t)) (.slice (some ⟨W.heap.size, 0, none⟩) k k) xs := by
  subst hk
  refine ⟨_, _, rfl, Nat.le_refl _, hm, fun j hj => ⟨W.heap.size, 0, rfl, ?_⟩⟩
  subst h
  rw [Nat.zero_add, cell_of_row _ _ j _ _ (0, 0) (heap_alloc_new W _)]
  simp [hj]
theorem u8n (n : Nat) (h : n < 256) : ((UInt8.ofNat n).toNat : Int) = (n : Int) := by rw [UInt8.toNat_ofNat']; omega
theorem hi6 (h k n : Nat) (hk : n < 2 ^ k) (hh : h % 2 ^ k = 0) (hs : h + n < 256) (hh2 : 0 < h) : bits .or .i64 (h : Int) (n : Int) % 256 = (h : Int) + (n : Int) := by
  rw [hi_or h k n hk hh (by omega) (by omega)]; omega

set_option maxRecDepth 100000 in
set_option maxHeartbeats 2000000 in
theorem put_any (c : Int) (w : World) :
    Calls Try.prog 104 #[.int .i64 c] w fun e w' => ∃ v, e = .returned v ∧ BytesV w' v (putI c) ∧ Below w.heap.size w w' := by
  cases hcd : codeI c with
  | false =>
    have hp : putI c = [] := by unfold putI; rw [hcd]; rfl
    rw [hp]
    have HC := Lib.hid (fun W => code_any c W)
    rw [hcd] at HC
    clear hp hcd
    go_enter Try.func104, Try.ntmps104
    go_wp2_with (go_at_call 107; refine (HC.out _).mono ?_; rintro e w1 ⟨rfl, rfl⟩)
    go_ret
    exact ⟨_, rfl, ⟨none, 0, rfl, Nat.le_refl _, Nat.zero_le _, fun j hj => absurd hj (by simp)⟩, Below.refl _ _⟩
  | true =>
    have HC := Lib.hid (fun W => code_any c W)
    rw [hcd] at HC
    have hc0 : 0 ≤ c ∧ c ≤ 1114111 := by unfold codeI at hcd; simp at hcd; omega
    obtain ⟨n, rfl⟩ := Int.eq_ofNat_of_zero_le hc0.1
    rw [codeI_nat] at hcd
    have hp : putI (n : Int) = Uf.put n := by unfold putI; rw [codeI_nat, hcd]; rfl
    rw [hp]
    have hn : n ≤ 1114111 := by omega
    have HL := Lib.hid (fun W => long_any n W (by omega))
    unfold Uf.put
    rw [hcd, if_neg (by simp)]
    unfold Uf.long longH at HL
    clear hp hcd hc0
    by_cases h1 : n < 128
    · rw [if_pos h1]
      rw [if_pos h1, if_pos h1] at HL
      have t1 : bits .or .i64 (0 : Int) (n : Int) = (n : Int) := by have := hi_or 0 7 n (by omega) (by decide) (by decide) (by omega); simpa using this
      have t2 : (n : Int) % 256 = (n : Int) := by omega
      have mk := make_1
      go_enter Try.func104, Try.ntmps104
      go_wp2_with (first | (go_at_call 107; refine (HC.out _).mono ?_; rintro e w1 ⟨rfl, rfl⟩) | (go_at_call 106; refine (HL.out _).mono ?_; rintro e w1 ⟨rfl, rfl⟩))
      refine wp_loop_rounds 1 ?_
      rw [rounds_succ]
      go_wp2
      go_ret
      exact ⟨_, rfl, cells_bytes _ _ _ (by simp; omega) _ (by unfold maxLen; simp) _ rfl, (Below.refl _ w1).alloc (Nat.le_refl _) _⟩
    · rw [if_neg h1]
      rw [if_neg h1, if_neg h1] at HL
      by_cases h2 : n < 2048
      · rw [if_pos h2]
        rw [if_pos h2, if_pos h2] at HL
        have mk := make_2
        have a0 := low6 n (by omega)
        have o0 := or128 (n % 64) (by omega)
        have h0 := hi6 192 5 (n / 64) (by omega) (by decide) (by omega) (by decide)
        simp at o0 h0
        go_enter Try.func104, Try.ntmps104
        go_wp2_with (first | (go_at_call 107; refine (HC.out _).mono ?_; rintro e w1 ⟨rfl, rfl⟩) | (go_at_call 106; refine (HL.out _).mono ?_; rintro e w1 ⟨rfl, rfl⟩))
        refine wp_loop_rounds 2 ?_
        rw [rounds_succ]
        go_wp2
        rw [rounds_succ]
        go_wp2
        go_ret
        exact ⟨_, rfl, cells_bytes _ _ _ (by simp; omega) _ (by unfold maxLen; simp) _ rfl, (Below.refl _ w1).alloc (Nat.le_refl _) _⟩
      · rw [if_neg h2]
        rw [if_neg h2, if_neg h2] at HL
        by_cases h3 : n < 65536
        · rw [if_pos h3]
          rw [if_pos h3, if_pos h3] at HL
          have mk := make_3
          have a0 := low6 n (by omega)
          have a1 := low6 (n / 64) (by omega)
          have o0 := or128 (n % 64) (by omega)
          have o1 := or128 (n / 64 % 64) (by omega)
          have h0 := hi6 224 4 (n / 4096) (by omega) (by decide) (by omega) (by decide)
          have h64 : (n : Int) / 64 / 64 = (n : Int) / 4096 := by omega
          simp at o0 o1 h0 a1
          clear h1 h2 h3 hn
          go_enter Try.func104, Try.ntmps104
          go_wp2_with (first | (go_at_call 107; refine (HC.out _).mono ?_; rintro e w1 ⟨rfl, rfl⟩) | (go_at_call 106; refine (HL.out _).mono ?_; rintro e w1 ⟨rfl, rfl⟩))
          refine wp_loop_rounds 3 ?_
          rw [rounds_succ]
          go_wp2
          rw [rounds_succ]
          go_wp2
          rw [rounds_succ]
          go_wp2
          go_ret
          exact ⟨_, rfl, cells_bytes _ _ _ (by simp; omega) _ (by unfold maxLen; simp) _ rfl, (Below.refl _ w1).alloc (Nat.le_refl _) _⟩
        · rw [if_neg h3]
          rw [if_neg h3, if_neg h3] at HL
          have mk := make_4
          have a0 := low6 n (by omega)
          have a1 := low6 (n / 64) (by omega)
          have a2 := low6 (n / 4096) (by omega)
          have o0 := or128 (n % 64) (by omega)
          have o1 := or128 (n / 64 % 64) (by omega)
          have o2 := or128 (n / 4096 % 64) (by omega)
          have h0 := hi6 240 4 (n / 262144) (by omega) (by decide) (by omega) (by decide)
          have h64 : (n : Int) / 64 / 64 = (n : Int) / 4096 := by omega
          have h65 : (n : Int) / 4096 / 64 = (n : Int) / 262144 := by omega
          simp at o0 o1 o2 h0 a1 a2
          clear h1 h2 h3
          go_enter Try.func104, Try.ntmps104
          go_wp2_with (first | (go_at_call 107; refine (HC.out _).mono ?_; rintro e w1 ⟨rfl, rfl⟩) | (go_at_call 106; refine (HL.out _).mono ?_; rintro e w1 ⟨rfl, rfl⟩))
          refine wp_loop_rounds 4 ?_
          rw [rounds_succ]
          go_wp2
          rw [rounds_succ]
          go_wp2
          rw [rounds_succ]
          go_wp2
          rw [rounds_succ]
          go_wp2
          go_ret
          exact ⟨_, rfl, cells_bytes _ _ _ (by simp; omega) _ (by unfold maxLen; simp) _ rfl, (Below.refl _ w1).alloc (Nat.le_refl _) _⟩

end Go.Proofs.Ythbpkmmnoeikoaa

/-
  token.four, unit, escape: what an escape means. Condition: the text is no longer than an int.
-/
namespace Go.Proofs.Ythbpkmmnoeikoaa
open Go Go.RowKit
set_option linter.unusedVariables false
set_option linter.unusedSimpArgs false

theorem conv_back {W : World} {v : Value} {xs : List UInt8} (h : BytesV W v xs) (hne : xs ≠ []) : (convert 67 9 v).run Try.prog W = .ok (str xs) W := by
  obtain ⟨p, cap, rfl, _, _, hc⟩ := h
  have hl := List.length_pos_iff.2 hne
  obtain ⟨b, o, rfl, _⟩ := hc 0 hl
  have := run_convert_bytes_arg (P := Try.prog) W 67 5 Try.underlying67 Try.underlying5 b o xs.length cap (xs.map fun c => (c.toNat : Int)) (by simp) (fun i hi => by
    obtain ⟨b', o', e, q⟩ := hc i hi
    cases e
    rw [q, List.getD_eq_getElem?_getD, List.getElem?_map, List.getElem?_eq_getElem hi]; rfl) 9 Try.underlying9
  rw [this]
  have e : strOfNums (xs.map fun c => (c.toNat : Int)) = bs xs := by
    unfold strOfNums bs
    rw [List.map_map]
    have : ∀ l : List UInt8, l.map ((fun n : Int => UInt8.ofNat n.toNat) ∘ fun c : UInt8 => (c.toNat : Int)) = l := by
      intro l
      induction l with
      | nil => rfl
      | cons a l ih => rw [List.map_cons, ih]; simp
    rw [this]
  rw [e]
theorem conv_nil (W : World) : (convert 67 9 (.slice none 0 0)).run Try.prog W = .ok (.string ⟨#[]⟩) W :=
  run_convert_bytes_nil (P := Try.prog) W 67 5 Try.underlying67 Try.underlying5 0 0 9 Try.underlying9
theorem put_ne (c : Nat) (h : Uf.code c = true) : Uf.put c ≠ [] := by
  intro e
  have := Uf.put_len c
  rw [e, h] at this
  unfold Uf.long at this
  simp at this
  split at this
  · omega
  · split at this
    · omega
    · split at this <;> omega
theorem putI_code (c : Nat) (h : Uf.code c = true) : putI (c : Int) = Uf.put c := by
  unfold putI; rw [codeI_nat, h]; rfl

def optI : Option Nat → Int
  | none => -1
  | some n => n
theorem hexs_short : ∀ (n : Nat) (l : List UInt8) (a : Nat), l.length < n → Tk.hexs n l a = none
  | 0, _, _, h => absurd h (by omega)
  | n + 1, [], _, _ => rfl
  | n + 1, c :: l, a, h => by
    unfold Tk.hexs
    cases hc : Tk.hex c with
    | none => rfl
    | some d => exact hexs_short n l _ (by simpa using h)
def six : List UInt8 := [48, 49, 50, 51, 52, 53, 54, 55, 56, 57, 97, 98, 99, 100, 101, 102]
theorem hexK : ∀ n : Nat, n < 256 → (if Lib.indexByte six (UInt8.ofNat (n ||| 32)) < 0 ∨ n < 48 then none else some (Lib.indexByte six (UInt8.ofNat (n ||| 32))).toNat) = Tk.hex (UInt8.ofNat n) := by decide +kernel
theorem hexB : ∀ n : Nat, n < 256 → Lib.indexByte six (UInt8.ofNat (n ||| 32)) ≤ 15 ∧ -1 ≤ Lib.indexByte six (UInt8.ofNat (n ||| 32)) := by decide +kernel

def FoR (l : List UInt8) (w0 : World) (a i : Value) (w : World) : Prop :=
  ∃ k acc : Nat, k ≤ 4 ∧ i = .int .i64 (k : Int) ∧ a = .int .i64 (acc : Int) ∧ acc < 16 ^ k ∧ w = w0 ∧ Hid (Tk.hexs 4 l 0 = Tk.hexs (4 - k) (l.drop k) acc)

set_option maxRecDepth 100000 in
set_option maxHeartbeats 2000000 in
theorem four_any (s : ByteArray) (w : World) (hs : s.size ≤ maxLen) :
    Calls Try.prog 114 #[.string s] w fun e w' => e = .returned (.int .i64 (optI (Tk.hexs 4 s.data.toList 0))) ∧ w' = w := by
  have hs2 : s.size ≤ 9223372036854775807 := hs
  by_cases h4 : s.size < 4
  · rw [hexs_short 4 s.data.toList 0 (by rw [len_data]; exact h4)]
    have t0 : decide ((s.size : Int) < 4) = true := decide_eq_true (by omega)
    go_enter Try.func114, Try.ntmps114
    go_wp2
    go_ret
    exact ⟨rfl, rfl⟩
  · have t0 : decide ((s.size : Int) < 4) = false := decide_eq_false (by omega)
    obtain ⟨r, hr⟩ : ∃ r, r = Tk.hexs 4 s.data.toList 0 := ⟨_, rfl⟩
    rw [← hr]
    have HR := Lib.hid hr
    clear hr
    go_enter Try.func114, Try.ntmps114
    go_wp2
    go_loopw [3, 9] (FoR s.data.toList w) (fun _ i _ => 4 - (intOf i).toNat)
    case atStart => exact ⟨0, 0, by omega, by go_num, by go_num, by simp, rfl, by unfold Hid; simp⟩
    case round =>
      obtain ⟨k, acc, hk, rfl, rfl, hacc, rfl, HX⟩ := hrel
      by_cases hk4 : k < 4
      · have tk : decide ((k : Int) < 4) = true := decide_eq_true (by omega)
        have hks : k < s.size := by omega
        have hd : s.data.toList.drop k = s[k] :: s.data.toList.drop (k + 1) := (List.getElem_cons_drop (by rw [len_data]; exact hks)).symm
        have hx := HX.out
        rw [show 4 - k = (4 - (k + 1)) + 1 by omega, hd, Tk.hexs] at hx
        have h32 := or32 s[k]
        have hK := hexK s[k].toNat s[k].toNat_lt
        have hB := hexB s[k].toNat s[k].toNat_lt
        have HI := Lib.hid (fun W => Try.strings_IndexByte ⟨#[48, 49, 50, 51, 52, 53, 54, 55, 56, 57, 97, 98, 99, 100, 101, 102]⟩ ((s[k].toNat ||| 32 : Nat) : Int) W)
        have hc2 : (((s[k].toNat ||| 32 : Nat) : Int)).toNat.toUInt8 = UInt8.ofNat (s[k].toNat ||| 32) := by simp
        rw [hc2] at HI
        change Hid (∀ W, Calls _ _ _ W fun e w' => e = .returned (.int .i64 (Lib.indexByte six (UInt8.ofNat (s[k].toNat ||| 32)))) ∧ w' = W) at HI
        have hc3 : UInt8.ofNat s[k].toNat = s[k] := by simp
        rw [hc3] at hK
        rw [← hK] at hx
        generalize Lib.indexByte six (UInt8.ofNat (s[k].toNat ||| 32)) = q at *
        generalize s[k].toNat ||| 32 = m at *
        clear hK hc2 hc3 hd
        have hkk : (k : Int) < (s.size : Int) := by omega
        have h16 : acc < 16 ^ 3 := Nat.lt_of_lt_of_le hacc (Nat.pow_le_pow_right (by decide) (by omega))
        by_cases hq : q < 0 ∨ s[k].toNat < 48
        · rw [if_pos hq] at hx
          obtain rfl : r = none := HR.out.trans (HX.out.trans (HX.out.symm.trans hx))
          clear hx HX HR
          rcases hq with hq | hq
          · go_wp2_with (go_at_call 66; refine (HI.out _).mono ?_; rintro e w1 ⟨rfl, rfl⟩)
            go_ret
            exact ⟨rfl, rfl⟩
          · by_cases hq0 : q < 0
            · go_wp2_with (go_at_call 66; refine (HI.out _).mono ?_; rintro e w1 ⟨rfl, rfl⟩)
              go_ret
              exact ⟨rfl, rfl⟩
            · go_wp2_with (go_at_call 66; refine (HI.out _).mono ?_; rintro e w1 ⟨rfl, rfl⟩)
              go_ret
              exact ⟨rfl, rfl⟩
        · rw [if_neg hq] at hx
          have HY : Hid (Tk.hexs 4 s.data.toList 0 = Tk.hexs (4 - (k + 1)) (s.data.toList.drop (k + 1)) (acc * 16 + q.toNat)) := HX.out.trans (HX.out.symm.trans hx)
          obtain ⟨hq1, hq2⟩ : 0 ≤ q ∧ 48 ≤ s[k].toNat := by omega
          have hqn : ((q.toNat : Nat) : Int) = q := by omega
          clear hx HX hq
          go_wp2_with (go_at_call 66; refine (HI.out _).mono ?_; rintro e w1 ⟨rfl, rfl⟩)
          go_roundw
          case rel => exact ⟨k + 1, acc * 16 + q.toNat, by omega, by go_num, by simp; omega, by rw [Nat.pow_succ]; omega, rfl, HY⟩
          case measure => simp [intOf]; omega
      · obtain rfl : k = 4 := by omega
        have hx := HX.out
        simp only [Nat.sub_self, Tk.hexs] at hx
        obtain rfl : r = some acc := HR.out.trans hx
        clear hx HX HR
        go_wp2
        go_ret
        exact ⟨rfl, rfl⟩

theorem drop_ext (s : ByteArray) (k : Nat) : (s.extract k s.size).data.toList = s.data.toList.drop k := by
  rw [ByteArray.data_extract, Array.toList_extract, List.extract_eq_take_drop]
  rw [List.take_of_length_le]
  rw [List.length_drop, len_data]; omega
theorem unit_any (s : ByteArray) (w : World) (hs : s.size ≤ maxLen) :
    Calls Try.prog 103 #[.string s] w fun e w' => e = .returned (.int .i64 (optI (Tk.unit s.data.toList))) ∧ w' = w := by
  have hs2 : s.size ≤ 9223372036854775807 := hs
  have HI := Lib.hid (fun W => Try.strings_HasPrefix s ⟨#[92, 117]⟩ W)
  have hp : Lib.hasPrefix s.data.toList [92, 117] = decide (s.data.toList.head? = some 92 ∧ s.data.toList.tail.head? = some 117) := by
    have key : ∀ l : List UInt8, Lib.hasPrefix l [92, 117] = decide (l.head? = some 92 ∧ l.tail.head? = some 117) := by
      intro l
      unfold Lib.hasPrefix
      rw [Bool.eq_iff_iff, decide_eq_true_eq]
      rcases l with _ | ⟨a, _ | ⟨b, l⟩⟩
      · simp
      · simp [List.isPrefixOf]
      · show ((92 == a) && ((117 == b) && List.isPrefixOf [] l)) = true ↔ (some a = some 92 ∧ some b = some 117)
        rw [Bool.and_eq_true, Bool.and_eq_true, beq_iff_eq, beq_iff_eq]
        constructor
        · rintro ⟨rfl, rfl, _⟩; exact ⟨rfl, rfl⟩
        · rintro ⟨h1, h2⟩; cases h1; cases h2; exact ⟨rfl, rfl, rfl⟩
    exact key _
  change Hid (∀ W, Calls _ _ _ W fun e w' => e = .returned (.bool (Lib.hasPrefix s.data.toList [92, 117])) ∧ w' = W) at HI
  rw [hp] at HI
  unfold Tk.unit
  by_cases h : s.data.toList.head? = some 92 ∧ s.data.toList.tail.head? = some 117
  · rw [if_pos h]
    rw [decide_eq_true h] at HI
    have key2 : ∀ l : List UInt8, (l.head? = some 92 ∧ l.tail.head? = some 117) → 2 ≤ l.length := by
      intro l h
      rcases l with _ | ⟨a, _ | ⟨b, l⟩⟩
      · simp at h
      · simp at h
      · simp
    have h2 : 2 ≤ s.size := by rw [← len_data]; exact key2 _ h
    have hf := fun W => four_any (s.extract 2 s.size) W (by rw [ByteArray.size_extract]; have : s.size ≤ maxLen := hs; omega)
    rw [drop_ext] at hf
    generalize Tk.hexs 4 (s.data.toList.drop 2) 0 = r at *
    have HF := Lib.hid hf
    clear hf h hp
    go_enter Try.func103, Try.ntmps103
    go_wp2_with (first | (go_at_call 113; refine (HI.out _).mono ?_; rintro e w1 ⟨rfl, rfl⟩) | (go_at_call 114; refine (HF.out _).mono ?_; rintro e w1 ⟨rfl, rfl⟩))
    go_ret
    exact ⟨rfl, rfl⟩
  · rw [if_neg h]
    rw [decide_eq_false h] at HI
    clear h hp
    go_enter Try.func103, Try.ntmps103
    go_wp2_with (go_at_call 113; refine (HI.out _).mono ?_; rintro e w1 ⟨rfl, rfl⟩)
    go_ret
    exact ⟨rfl, rfl⟩

/-! ### escape -/
def six8 : List UInt8 := [34, 92, 47, 98, 102, 110, 114, 116]
def table : List UInt8 := [34, 92, 47, 8, 12, 10, 13, 9]
theorem simK : ∀ n : Nat, n < 256 → Lib.indexByte six8 (UInt8.ofNat n) ≤ 7 ∧ (if Lib.indexByte six8 (UInt8.ofNat n) < 0 then none else some (table.getD (Lib.indexByte six8 (UInt8.ofNat n)).toNat 0)) = Tk.simple (UInt8.ofNat n) := by decide +kernel
theorem tabK : ∀ k : Nat, k ≤ 7 → ((⟨#[34, 92, 47, 8, 12, 10, 13, 9]⟩ : ByteArray).extract k (k + 1)) = bs [table.getD k 0] := by
  intro k hk
  rcases (by omega : k = 0 ∨ k = 1 ∨ k = 2 ∨ k = 3 ∨ k = 4 ∨ k = 5 ∨ k = 6 ∨ k = 7) with rfl | rfl | rfl | rfl | rfl | rfl | rfl | rfl <;> rfl
theorem hexs_bound : ∀ (n : Nat) (l : List UInt8) (a r : Nat), Tk.hexs n l a = some r → r < (a + 1) * 16 ^ n
  | 0, l, a, r, h => by simp [Tk.hexs] at h; omega
  | n + 1, [], a, r, h => by simp [Tk.hexs] at h
  | n + 1, c :: l, a, r, h => by
    unfold Tk.hexs at h
    cases hc : Tk.hex c with
    | none => rw [hc] at h; cases h
    | some d =>
      rw [hc] at h
      have hd : d < 16 := by
        unfold Tk.hex at hc
        split at hc
        · cases hc; omega
        · split at hc
          · cases hc; omega
          · split at hc
            · cases hc; omega
            · cases hc
      have := hexs_bound n l _ r h
      have h2 : (a * 16 + d + 1) * 16 ^ n ≤ ((a + 1) * 16) * 16 ^ n := Nat.mul_le_mul_right _ (by omega)
      rw [Nat.pow_succ, Nat.mul_comm (16 ^ n), ← Nat.mul_assoc]; omega
theorem unit_bound {l : List UInt8} {r : Nat} (h : Tk.unit l = some r) : r < 65536 ∧ 6 ≤ l.length := by
  unfold Tk.unit at h
  split at h
  · refine ⟨by have := hexs_bound 4 _ 0 r h; omega, ?_⟩
    rcases Nat.lt_or_ge l.length 6 with h6 | h6
    · rw [hexs_short 4 (l.drop 2) 0 (by rw [List.length_drop]; omega)] at h; cases h
    · exact h6
  · cases h
def escV : Option (List UInt8 × Nat) → Value
  | none => .tuple #[.string ⟨#[]⟩, .int .i64 0]
  | some p => .tuple #[str p.1, .int .i64 (p.2 : Int)]

theorem put_none (c : Int) (w : World) (hcd : codeI c = false) : Calls Try.prog 104 #[.int .i64 c] w fun e w' => e = .returned (.slice none 0 0) ∧ w' = w := by
  have HC := Lib.hid (fun W => code_any c W)
  rw [hcd] at HC
  clear hcd
  go_enter Try.func104, Try.ntmps104
  go_wp2_with (go_at_call 107; refine (HC.out _).mono ?_; rintro e w1 ⟨rfl, rfl⟩)
  go_ret
  exact ⟨rfl, rfl⟩
theorem put_str (c : Nat) (h : Uf.code c = true) (w : World) : Calls Try.prog 104 #[.int .i64 (c : Int)] w fun e w' => ∃ v, e = .returned v ∧ (convert 67 9 v).run Try.prog w' = .ok (str (Uf.put c)) w' ∧ Below w.heap.size w w' := by
  refine (put_any (c : Int) w).mono ?_
  rintro e w' ⟨v, rfl, hv, hb⟩
  rw [putI_code c h] at hv
  exact ⟨v, rfl, conv_back hv (put_ne c h), hb⟩

set_option maxRecDepth 100000 in
set_option maxHeartbeats 4000000 in
/-- from the escape of four digits on -/
theorem uesc_walk (s : ByteArray) (w : World) (hs : s.size ≤ 9223372036854775807)
    (hq : s.size ≤ 1 ∨ ∃ h : 1 < s.size, Lib.indexByte six8 s[1] < 0) :
    Calls Try.prog 91 #[.string s] w fun e w' => e = .returned (escV (Tk.uesc s.data.toList)) ∧ Below w.heap.size w w' := by
  have HU := Lib.hid (fun W => unit_any s W hs)
  have hcn := conv_nil
  obtain ⟨r, hr⟩ : ∃ r, r = Tk.uesc s.data.toList := ⟨_, rfl⟩
  rw [← hr]
  have HI := Lib.hid (fun (c : UInt8) W => Try.strings_IndexByte ⟨#[34, 92, 47, 98, 102, 110, 114, 116]⟩ (c.toNat : Int) W)
  have hcc : ∀ c : UInt8, ((c.toNat : Int)).toNat.toUInt8 = c := fun c => by simp
  simp only [hcc] at HI
  change Hid (∀ (c : UInt8) W, Calls _ _ _ W fun e w' => e = .returned (.int .i64 (Lib.indexByte six8 c)) ∧ w' = W) at HI
  unfold Tk.uesc at hr
  cases hu : Tk.unit s.data.toList with
  | none =>
    rw [hu] at HU hr
    subst hr
    have HP := Lib.hid (fun W => put_none (-1) W (by decide))
    unfold optI at HU
    clear hu
    rcases hq with hq | ⟨hlt, hq⟩
    · have t0 : decide ((s.size : Int) > 1) = false := decide_eq_false (by omega)
      go_enter Try.func91, Try.ntmps91
      go_wp2_with (first | (go_at_call 103; refine (HU.out _).mono ?_; rintro e w1 ⟨rfl, rfl⟩) | (go_at_call 104; refine (HP.out _).mono ?_; rintro e w1 ⟨rfl, rfl⟩))
      go_ret2
      exact ⟨rfl, Below.refl _ _⟩
    · have t0 : decide ((s.size : Int) > 1) = true := decide_eq_true (by omega)
      have HIc := Lib.hid (HI.out s[1])
      generalize Lib.indexByte six8 s[1] = q at *
      go_enter Try.func91, Try.ntmps91
      go_wp2_with (first | (go_at_call 66; refine (HIc.out _).mono ?_; rintro e w1 ⟨rfl, rfl⟩) | (go_at_call 103; refine (HU.out _).mono ?_; rintro e w1 ⟨rfl, rfl⟩) | (go_at_call 104; refine (HP.out _).mono ?_; rintro e w1 ⟨rfl, rfl⟩))
      go_ret2
      exact ⟨rfl, Below.refl _ _⟩
  | some c =>
    rw [hu] at HU hr
    obtain ⟨hcb, hl6⟩ := unit_bound hu
    rw [len_data] at hl6
    dsimp only at hr
    obtain ⟨hlt, hq⟩ : ∃ h : 1 < s.size, Lib.indexByte six8 s[1] < 0 := hq.resolve_left (by omega)
    have t0 : decide ((s.size : Int) > 1) = true := decide_eq_true (by omega)
    have HIc := Lib.hid (HI.out s[1])
    generalize Lib.indexByte six8 s[1] = q at *
    change Hid (∀ W, Calls _ _ _ W fun e w' => e = .returned (.int .i64 (c : Int)) ∧ w' = W) at HU
    clear hu HI hcc
    cases hcd : Uf.code c with
    | true =>
      rw [hcd, if_pos rfl] at hr
      subst hr
      have hco : c < 55296 ∨ 57343 < c := by unfold Uf.code at hcd; simp at hcd; omega
      have HP := Lib.hid (fun W => put_str c hcd W)
      clear hcd
      obtain ⟨z, hz⟩ : ∃ z : Int, z = (c : Int) := ⟨_, rfl⟩
      have hz0 : 0 ≤ z := by omega
      have hz1 : z ≤ 65535 := by omega
      have hmin : min (1 : Int) (z + 1) = 1 := by omega
      have hzz : z < 55296 ∨ 57343 < z := by omega
      rw [← hz] at HU HP
      clear hco hcb hz
      rcases hzz with h | h
      · skip
        go_enter Try.func91, Try.ntmps91
        go_wp2_with (first | (go_at_call 66; refine (HIc.out _).mono ?_; rintro e w1 ⟨rfl, rfl⟩) | (go_at_call 103; refine (HU.out _).mono ?_; rintro e w1 ⟨rfl, rfl⟩) | (go_at_call 104; refine (HP.out _).mono ?_; rintro e w2 ⟨v2, rfl, hcv, hb2⟩))
        go_ret2
        exact ⟨rfl, hb2⟩
      · skip
        go_enter Try.func91, Try.ntmps91
        go_wp2_with (first | (go_at_call 66; refine (HIc.out _).mono ?_; rintro e w1 ⟨rfl, rfl⟩) | (go_at_call 103; refine (HU.out _).mono ?_; rintro e w1 ⟨rfl, rfl⟩) | (go_at_call 104; refine (HP.out _).mono ?_; rintro e w2 ⟨v2, rfl, hcv, hb2⟩))
        go_ret2
        exact ⟨rfl, hb2⟩
    | false =>
      rw [hcd, if_neg (by simp)] at hr
      have hco : 55296 ≤ c ∧ c ≤ 57343 := by unfold Uf.code at hcd; simp at hcd; omega
      clear hcd
      obtain ⟨z, hz⟩ : ∃ z : Int, z = (c : Int) := ⟨_, rfl⟩
      have hz0 : 55296 ≤ z := by omega
      have hz1 : z ≤ 57343 := by omega
      rw [← hz] at HU
      by_cases h2 : 56320 ≤ c
      · rw [if_pos h2] at hr
        subst hr
        have tc : 56320 ≤ z := by omega
        clear h2 hco hcb hz
        go_enter Try.func91, Try.ntmps91
        go_wp2_with (first | (go_at_call 66; refine (HIc.out _).mono ?_; rintro e w1 ⟨rfl, rfl⟩) | (go_at_call 103; refine (HU.out _).mono ?_; rintro e w1 ⟨rfl, rfl⟩))
        go_ret2
        exact ⟨rfl, Below.refl _ _⟩
      · rw [if_neg h2] at hr
        have tc : z < 56320 := by omega
        have HV := Lib.hid (fun W => unit_any (s.extract 6 s.size) W (show (s.extract 6 s.size).size ≤ 9223372036854775807 by rw [ByteArray.size_extract]; omega))
        rw [drop_ext] at HV
        cases hd : Tk.unit (s.data.toList.drop 6) with
        | none =>
          rw [hd] at hr HV
          subst hr
          change Hid (∀ W, Calls _ _ _ W fun e w' => e = .returned (.int .i64 (-1)) ∧ w' = W) at HV
          clear hd h2 hco hcb hz
          go_enter Try.func91, Try.ntmps91
          go_wp2_with (first | (go_at_call 66; refine (HIc.out _).mono ?_; rintro e w1 ⟨rfl, rfl⟩) | (go_at_call 103; first | (with_reducible refine (HU.out _).mono ?_; rintro e w1 ⟨rfl, rfl⟩) | (refine (HV.out _).mono ?_; rintro e w1 ⟨rfl, rfl⟩)))
          go_ret2
          exact ⟨rfl, Below.refl _ _⟩
        | some d =>
          rw [hd] at hr HV
          dsimp only at hr
          have hdb := (unit_bound hd).1
          change Hid (∀ W, Calls _ _ _ W fun e w' => e = .returned (.int .i64 (d : Int)) ∧ w' = W) at HV
          obtain ⟨y, hy⟩ : ∃ y : Int, y = (d : Int) := ⟨_, rfl⟩
          have hy0 : 0 ≤ y := by omega
          have hy1 : y ≤ 65535 := by omega
          rw [← hy] at HV
          clear hd
          by_cases h3 : 56320 ≤ d ∧ d ≤ 57343
          · rw [if_pos h3] at hr
            subst hr
            have HP := Lib.hid (fun W => put_str (65536 + (c - 55296) * 1024 + (d - 56320)) (by unfold Uf.code; simp; omega) W)
            have hce : ((65536 + (c - 55296) * 1024 + (d - 56320) : Nat) : Int) = 65536 + (z - 55296) * 1024 + y - 56320 := by omega
            rw [hce] at HP
            generalize Uf.put (65536 + (c - 55296) * 1024 + (d - 56320)) = pp at *
            have td : 56320 ≤ y := by omega
            have te : y ≤ 57343 := by omega
            clear h2 h3 hco hcb hdb hce hy hz
            go_enter Try.func91, Try.ntmps91
            go_wp2_with (first | (go_at_call 66; refine (HIc.out _).mono ?_; rintro e w1 ⟨rfl, rfl⟩) | (go_at_call 103; first | (with_reducible refine (HU.out _).mono ?_; rintro e w1 ⟨rfl, rfl⟩) | (refine (HV.out _).mono ?_; rintro e w1 ⟨rfl, rfl⟩)) | (go_at_call 104; refine (HP.out _).mono ?_; rintro e w2 ⟨v2, rfl, hcv, hb2⟩))
            go_ret2
            exact ⟨rfl, hb2⟩
          · rw [if_neg h3] at hr
            subst hr
            have hyy : y < 56320 ∨ 57343 < y := by omega
            clear h2 h3 hco hcb hdb hy hz
            rcases hyy with h4 | h4
            · skip
              go_enter Try.func91, Try.ntmps91
              go_wp2_with (first | (go_at_call 66; refine (HIc.out _).mono ?_; rintro e w1 ⟨rfl, rfl⟩) | (go_at_call 103; first | (with_reducible refine (HU.out _).mono ?_; rintro e w1 ⟨rfl, rfl⟩) | (refine (HV.out _).mono ?_; rintro e w1 ⟨rfl, rfl⟩)))
              go_ret2
              exact ⟨rfl, Below.refl _ _⟩
            · skip
              go_enter Try.func91, Try.ntmps91
              go_wp2_with (first | (go_at_call 66; refine (HIc.out _).mono ?_; rintro e w1 ⟨rfl, rfl⟩) | (go_at_call 103; first | (with_reducible refine (HU.out _).mono ?_; rintro e w1 ⟨rfl, rfl⟩) | (refine (HV.out _).mono ?_; rintro e w1 ⟨rfl, rfl⟩)))
              go_ret2
              exact ⟨rfl, Below.refl _ _⟩

/-- token.escape: what an escape means, and how long it is -/
theorem escape_any (s : ByteArray) (w : World) (hs : s.size ≤ 9223372036854775807) :
    Calls Try.prog 91 #[.string s] w fun e w' => e = .returned (escV (Tk.esc s.data.toList)) ∧ Below w.heap.size w w' := by
  by_cases h1 : s.size ≤ 1
  · have he : Tk.esc s.data.toList = Tk.uesc s.data.toList := by
      unfold Tk.esc
      have : s.data.toList.tail = [] := List.eq_nil_of_length_eq_zero (by rw [List.length_tail, len_data]; omega)
      rw [this]
    rw [he]; exact uesc_walk s w hs (.inl h1)
  · have hlt : 1 < s.size := by omega
    have ht : s.data.toList.tail = s[1] :: s.data.toList.drop 2 := by
      rw [← List.drop_one]
      exact (List.getElem_cons_drop (by rw [len_data]; exact hlt)).symm
    have hk := simK s[1].toNat s[1].toNat_lt
    have hc3 : UInt8.ofNat s[1].toNat = s[1] := by simp
    rw [hc3] at hk
    by_cases hq : Lib.indexByte six8 s[1] < 0
    · rw [if_pos hq] at hk
      have he : Tk.esc s.data.toList = Tk.uesc s.data.toList := by
        unfold Tk.esc
        rw [ht]
        dsimp only
        rw [← hk.2]
      rw [he]; exact uesc_walk s w hs (.inr ⟨hlt, hq⟩)
    · rw [if_neg hq] at hk
      have HI := Lib.hid (fun W => Try.strings_IndexByte ⟨#[34, 92, 47, 98, 102, 110, 114, 116]⟩ (s[1].toNat : Int) W)
      have hcc : ((s[1].toNat : Int)).toNat.toUInt8 = s[1] := by simp
      rw [hcc] at HI
      change Hid (∀ W, Calls _ _ _ W fun e w' => e = .returned (.int .i64 (Lib.indexByte six8 s[1])) ∧ w' = W) at HI
      have he : Tk.esc s.data.toList = some ([table.getD (Lib.indexByte six8 s[1]).toNat 0], 2) := by
        unfold Tk.esc
        rw [ht]
        dsimp only
        rw [← hk.2]
      rw [he]
      have htb := tabK (Lib.indexByte six8 s[1]).toNat (by omega)
      obtain ⟨k, hkk⟩ := Int.eq_ofNat_of_zero_le (show 0 ≤ Lib.indexByte six8 s[1] by omega)
      have hk7 : k ≤ 7 := by omega
      rw [hkk] at HI htb ⊢
      have e2 : ((k : Int)).toNat = k := by omega
      rw [e2] at htb ⊢
      have t0 : decide ((s.size : Int) > 1) = true := decide_eq_true (by omega)
      have hsz : (⟨#[34, 92, 47, 8, 12, 10, 13, 9]⟩ : ByteArray).size = 8 := rfl
      have hst : escV (some ([table.getD k 0], 2)) = .tuple #[.string ((⟨#[34, 92, 47, 8, 12, 10, 13, 9]⟩ : ByteArray).extract k (k + 1)), .int .i64 2] := by
        rw [htb]; rfl
      rw [hst]
      clear hst htb he hk hkk hq hcc hc3 ht
      go_enter Try.func91, Try.ntmps91
      go_wp2_with (go_at_call 66; refine (HI.out _).mono ?_; rintro e w1 ⟨rfl, rfl⟩)
      go_ret2
      exact ⟨rfl, Below.refl _ _⟩

end Go.Proofs.Ythbpkmmnoeikoaa
