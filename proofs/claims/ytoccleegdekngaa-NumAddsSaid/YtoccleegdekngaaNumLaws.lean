/-
  The walks of the five statements on numbers, over the contracts of what they call. Conditions: numbers are of 64 bits, texts are no longer than 2^63 bytes.
-/
import Derived.Test.YtoccleegdekngaaNumAdd
import Derived.Test.YtoccleegdekngaaNumPrint
import Derived.Test.YtoccleegdekngaaNumRPrint
import Derived.Test.YtoccleegdekngaaNumScan
namespace Go.Proofs.Ytoccleegdekngaa
open Go.RowKit

theorem parse_c (l : List UInt8) (n e : Int) (h : Nm.parse l = (n, e)) (hl : l.length ≤ 100) (w : World) :
    Calls Try.prog 13 #[.string ⟨l.toArray⟩] w fun e' w' => e' = .returned (.tuple #[.int .i64 n, .int .i64 e]) ∧ w = w' := by
  have := parse_any (bs l) w (by rw [bs_size]; omega)
  rw [bs_data, h] at this; exact this
theorem scan_c (l : List UInt8) (p n q e : Int) (h : Nm.scan l p = (n, q, e)) (hl : l.length ≤ 100) (h0 : 0 ≤ p) (h1 : p ≤ 100) (w : World) :
    Calls Try.prog 15 #[.string ⟨l.toArray⟩, .int .i64 p] w fun e' w' => e' = .returned (.tuple #[.int .i64 n, .int .i64 q, .int .i64 e]) ∧ w = w' := by
  have := scan_any (bs l) p w (by rw [bs_size]; omega) (by omega) (by omega)
  rw [bs_data, h] at this; exact this

set_option maxHeartbeats 1000000 in
theorem alive_any (w : World) : Calls Try.prog 8 #[] w fun e w' => e = .returned (.bool true) ∧ Below w.heap.size w w' := by
  have c1 := Lib.hid (parse_c [45, 49, 50, 48] (-120) 0 (by decide) (by decide))
  have c2 := Lib.hid (parse_c [48, 48, 55] 0 2 (by decide) (by decide))
  have c3 := Lib.hid (parse_c [57, 50, 50, 51, 51, 55, 50, 48, 51, 54, 56, 53, 52, 55, 55, 53, 56, 48, 56] 0 5 (by decide) (by decide))
  have c4 := Lib.hid (scan_c [97, 49, 50, 98] 1 12 3 0 (by decide) (by decide) (by decide) (by decide))
  have c5 : Hid (∀ w, Calls Try.prog 9 #[.int .i64 2, .int .i64 3] w fun e w' => e = .returned (.tuple #[.int .i64 5, .bool true]) ∧ w = w') := fun w => add_any 2 3 w (by decide) (by decide) (by decide) (by decide)
  have c6 : Hid (∀ w, Calls Try.prog 11 #[.int .i64 (-120)] w fun e w' => e = .returned (.string ⟨#[45, 49, 50, 48]⟩) ∧ Below w.heap.size w w') := fun w => by
    have := print_any (-120) w (by decide) (by decide)
    have e : Nm.pr (-120) = [45, 49, 50, 48] := by decide
    rw [e] at this; exact this
  go_enter Try.func8, Try.ntmps8
  go_wp2_with fail
  refine (c1.out _).mono ?_
  rintro e w' ⟨rfl, rfl⟩
  go_wp2_with fail
  refine (c2.out _).mono ?_
  rintro e w' ⟨rfl, rfl⟩
  go_wp2_with fail
  refine (c3.out _).mono ?_
  rintro e w' ⟨rfl, rfl⟩
  go_wp2_with (first | (go_at_call 15; refine (c4.out _).mono ?_; rintro e w' ⟨rfl, rfl⟩) | (go_at_call 9; refine (c5.out _).mono ?_; rintro e w' ⟨rfl, rfl⟩) | (go_at_call 11; refine (c6.out _).mono ?_; rintro e w' ⟨rfl, hb⟩))
  go_ret
  exact ⟨rfl, by assumption⟩

set_option maxHeartbeats 1000000 in
theorem numPrints_walk (n m : Int) (w : World) (h1 : -9223372036854775808 ≤ n) (h2 : n ≤ 9223372036854775807) (h3 : -9223372036854775808 ≤ m) (h4 : m ≤ 9223372036854775807) :
    Calls Try.prog 3 #[.int .i64 n, .int .i64 m] w fun e w' => e = .returned (.bool true) ∧ Below w.heap.size w w' := by
  have ca := Lib.hid (fun w => add_any n m w h1 h2 h3 h4)
  have cr := Lib.hid (fun w => radd_any n m w h1 h2 h3 h4)
  have cp := Lib.hid (fun w => print_any n w h1 h2)
  have cq := Lib.hid (fun w => rprint_any n w h1 h2)
  go_enter Try.func3, Try.ntmps3
  go_wp2_with (first | (go_at_call 8; refine (alive_any _).mono ?_; rintro e w0 ⟨rfl, hb0⟩) | (go_at_call 9; refine (ca.out _).mono ?_; rintro e w' ⟨rfl, rfl⟩) | (go_at_call 10; refine (cr.out _).mono ?_; rintro e w' ⟨rfl, rfl⟩) | (go_at_call 11; refine (cp.out _).mono ?_; rintro e w1 ⟨rfl, hb1⟩) | (go_at_call 12; refine (cq.out _).mono ?_; rintro e w2 ⟨rfl, hb2⟩))
  go_ret
  exact ⟨rfl, (hb0.trans (hb1.mono hb0.size)).trans (hb2.mono (Nat.le_trans hb0.size hb1.size))⟩

set_option maxHeartbeats 1000000 in
theorem numParses_walk (s : ByteArray) (p : Int) (w : World) (h1 : -9223372036854775808 ≤ p) (h2 : p ≤ 9223372036854775807) (hs : s.size ≤ maxLen) :
    Calls Try.prog 4 #[.string s, .int .i64 p] w fun e w' => e = .returned (.bool true) ∧ Below w.heap.size w w' := by
  unfold maxLen at hs
  by_cases hl : s.size ≤ 300
  · have ca := Lib.hid (fun w => parse_any s w (by omega))
    have cr := Lib.hid (fun w => rparse_any s w (by omega))
    have cp := Lib.hid (fun w => scan_any s p w (by omega) h1 h2)
    have cq := Lib.hid (fun w => rscan_any s p w (by omega) h1 h2)
    go_enter Try.func4, Try.ntmps4
    go_wp2_with (first | (go_at_call 8; refine (alive_any _).mono ?_; rintro e w0 ⟨rfl, hb0⟩) | (go_at_call 13; refine (ca.out _).mono ?_; rintro e w' ⟨rfl, rfl⟩) | (go_at_call 14; refine (cr.out _).mono ?_; rintro e w' ⟨rfl, rfl⟩) | (go_at_call 15; refine (cp.out _).mono ?_; rintro e w1 ⟨rfl, rfl⟩) | (go_at_call 16; refine (cq.out _).mono ?_; rintro e w2 ⟨rfl, rfl⟩))
    go_ret
    exact ⟨rfl, by assumption⟩
  · go_enter Try.func4, Try.ntmps4
    go_wp2_with (go_at_call 8; refine (alive_any _).mono ?_; rintro e w0 ⟨rfl, hb0⟩)
    go_ret
    exact ⟨rfl, by assumption⟩

theorem addS_comm (a b : Int) : addS b a = addS a b := by unfold addS; rw [Int.add_comm]
theorem addB_comm (a b : Int) : addB b a = addB a b := by unfold addB; rw [Int.add_comm]

set_option maxHeartbeats 1000000 in
theorem numAdds_walk (a b : Int) (w : World) (h1 : -9223372036854775808 ≤ a) (h2 : a ≤ 9223372036854775807) (h3 : -9223372036854775808 ≤ b) (h4 : b ≤ 9223372036854775807) :
    Calls Try.prog 6 #[.int .i64 a, .int .i64 b] w fun e w' => e = .returned (.bool true) ∧ Below w.heap.size w w' := by
  by_cases hin : -9223372036854775808 ≤ a + b ∧ a + b ≤ 9223372036854775807
  · have ca := Lib.hid (fun w => add_any a b w h1 h2 h3 h4)
    have cr := Lib.hid (fun w => add_any b a w h3 h4 h1 h2)
    rw [addS_comm, addB_comm] at cr
    rw [addS_in hin, addB_in hin] at ca cr
    obtain ⟨g1, g2⟩ := hin
    have e1 : a + b - b = a := by omega
    have e2 : a + b - a = b := by omega
    go_enter Try.func6, Try.ntmps6
    go_wp2_with (go_at_call 8; refine (alive_any _).mono ?_; rintro e w0 ⟨rfl, hb0⟩)
    refine (ca.out _).mono ?_
    rintro e w' ⟨rfl, rfl⟩
    go_wp2_with fail
    refine (cr.out _).mono ?_
    rintro e w' ⟨rfl, rfl⟩
    go_wp2
    go_ret
    exact ⟨rfl, hb0⟩
  · have ca := Lib.hid (fun w => add_any a b w h1 h2 h3 h4)
    have cr := Lib.hid (fun w => add_any b a w h3 h4 h1 h2)
    rw [addS_comm, addB_comm] at cr
    rw [addS_out hin, addB_out hin] at ca cr
    have hz : (0 < a ∧ 0 < b) ∨ (a < 0 ∧ b < 0) := by omega
    clear hin
    rcases hz with ⟨g1, g2⟩ | ⟨g1, g2⟩
    all_goals
      go_enter Try.func6, Try.ntmps6
      go_wp2_with (go_at_call 8; refine (alive_any _).mono ?_; rintro e w0 ⟨rfl, hb0⟩)
      refine (ca.out _).mono ?_
      rintro e w' ⟨rfl, rfl⟩
      go_wp2_with fail
      refine (cr.out _).mono ?_
      rintro e w' ⟨rfl, rfl⟩
      go_wp2
      go_ret
      exact ⟨ret_b (by simp; omega), by assumption⟩

/-! ### the order of digits -/
theorem less_append (a b x : List UInt8) : Op.bytesLess (a ++ x) (a ++ b) = Op.bytesLess x b := by
  induction a with
  | nil => rfl
  | cons c a ih => simp [Op.bytesLess, ih]
theorem less_snoc_lt : ∀ (a b x y : List UInt8), a.length = b.length → Op.bytesLess a b = true → Op.bytesLess (a ++ x) (b ++ y) = true
  | [], [], _, _, _, h => by simp [Op.bytesLess] at h
  | [], _ :: _, _, _, hl, _ => by simp at hl
  | _ :: _, [], _, _, hl, _ => by simp at hl
  | c :: a, d :: b, x, y, hl, h => by
    simp only [List.length_cons, Nat.add_right_cancel_iff] at hl
    simp only [Op.bytesLess, Bool.or_eq_true, decide_eq_true_eq, Bool.and_eq_true] at h
    simp only [List.cons_append, Op.bytesLess, Bool.or_eq_true, decide_eq_true_eq, Bool.and_eq_true]
    rcases h with h | ⟨h1, h2⟩
    · exact .inl h
    · exact .inr ⟨h1, less_snoc_lt a b x y hl h2⟩
theorem ch_lt {a b : Nat} (hb : b < 10) (h : a < b) : Nm.ch a < Nm.ch b := by
  rw [UInt8.lt_iff_toNat_lt, Nm.toNat_ch (by omega), Nm.toNat_ch hb]; omega
theorem rd_mono : ∀ (f n m : Nat), n ≤ m → (Nm.rd f n).length ≤ (Nm.rd f m).length
  | 0, _, _, _ => by simp [Nm.rd]
  | f + 1, n, m, h => by
    have ih := rd_mono f (n / 10) (m / 10) (by omega)
    rw [Nm.rd, Nm.rd]
    by_cases hn : n < 10
    · rw [if_pos hn]; simp
    · rw [if_neg hn, if_neg (by omega)]; simpa using ih
theorem rd_order : ∀ (f n m : Nat), n ≤ m → m < 10 ^ (f + 1) → (Nm.rd (f + 1) n).length = (Nm.rd (f + 1) m).length → Op.bytesLess (Nm.rd (f + 1) n).reverse (Nm.rd (f + 1) m).reverse = true ∨ n = m
  | 0, n, m, h, hm, _ => by
    simp at hm
    by_cases e : n = m
    · exact .inr e
    · left
      rw [rd_one 0 n (by omega), rd_one 0 m (by omega)]
      simp [Op.bytesLess, Nat.mod_eq_of_lt (show n < 10 by omega), Nat.mod_eq_of_lt hm]
      exact ch_lt hm (by omega)
  | f + 1, n, m, h, hm, hl => by
    by_cases e : n = m
    · exact .inr e
    · left
      by_cases hn : n < 10
      · rw [rd_one (f + 1) n hn] at hl ⊢
        by_cases hm10 : m < 10
        · rw [rd_one (f + 1) m hm10]
          simp [Op.bytesLess, Nat.mod_eq_of_lt hn, Nat.mod_eq_of_lt hm10]
          exact ch_lt hm10 (by omega)
        · rw [rd_cons (f + 1) m (by omega)] at hl
          have := List.length_pos_iff.2 (Nm.rd_ne f (m / 10))
          simp at hl; simp [hl] at this
      · rw [rd_cons (f + 1) n (by omega), rd_cons (f + 1) m (by omega)] at hl ⊢
        simp only [List.length_cons, Nat.add_right_cancel_iff] at hl
        simp only [List.reverse_cons]
        rcases rd_order f (n / 10) (m / 10) (by omega) (by rw [Nat.pow_succ] at hm; omega) hl with hlt | he
        · exact less_snoc_lt _ _ _ _ (by simpa using hl) hlt
        · rw [he, less_append]
          simp only [Op.bytesLess, Bool.or_eq_true, decide_eq_true_eq]
          exact .inl (ch_lt (by omega) (by omega))

theorem pr_order {n m : Int} (h0 : 0 ≤ n) (h : n ≤ m) (h2 : m ≤ 9223372036854775807) :
    (Nm.pr n).length < (Nm.pr m).length ∨ ((Nm.pr n).length = (Nm.pr m).length ∧ (Op.bytesLess (Nm.pr n) (Nm.pr m) || Nm.pr n == Nm.pr m) = true) := by
  have e1 : Nm.pr n = (Nm.rd 20 n.natAbs).reverse := by unfold Nm.pr; rw [if_neg (by omega)]; rfl
  have e2 : Nm.pr m = (Nm.rd 20 m.natAbs).reverse := by unfold Nm.pr; rw [if_neg (by omega)]; rfl
  have hmo := rd_mono 20 n.natAbs m.natAbs (by omega)
  rw [e1, e2]
  by_cases hl : (Nm.rd 20 n.natAbs).length = (Nm.rd 20 m.natAbs).length
  · right
    refine ⟨by simpa using hl, ?_⟩
    rcases rd_order 19 n.natAbs m.natAbs (by omega) (Nm.natAbs_lt (by omega) h2) hl with h | h
    · rw [h]; rfl
    · rw [h]; simp
  · left; simp; omega

set_option maxHeartbeats 1000000 in
theorem numBack_long (n : Int) (s : ByteArray) (w : World) (hl : 300 < s.size) (hs : s.size ≤ maxLen) :
    Calls Try.prog 5 #[.int .i64 n, .string s] w fun e w' => e = .returned (.bool true) ∧ Below w.heap.size w w' := by
  unfold maxLen at hs
  go_enter Try.func5, Try.ntmps5
  go_wp2_with (go_at_call 8; refine (alive_any _).mono ?_; rintro e w0 ⟨rfl, hb0⟩)
  go_ret
  exact ⟨rfl, by assumption⟩

theorem join_data (P s : ByteArray) (l : List UInt8) (h : P = bs l) : (P ++ ⟨#[120]⟩ ++ s).data.toList = l ++ 120 :: s.data.toList := by
  subst h; simp [bs]

set_option maxHeartbeats 1000000 in
theorem numBack_walk (n : Int) (s : ByteArray) (w : World) (h1 : -9223372036854775808 ≤ n) (h2 : n ≤ 9223372036854775807) (hl : s.size ≤ 300) :
    Calls Try.prog 5 #[.int .i64 n, .string s] w fun e w' => e = .returned (.bool true) ∧ Below w.heap.size w w' := by
  obtain ⟨P, hP⟩ : ∃ P, P = bs (Nm.pr n) := ⟨_, rfl⟩
  have hPs : P.size ≤ 20 := by rw [hP, bs_size]; exact Nm.pr_len20 h1 h2
  have hPd : P.data.toList = Nm.pr n := by rw [hP]; rfl
  have cp : ∀ w, Calls Try.prog 11 #[.int .i64 n] w fun e w' => e = .returned (.string P) ∧ Below w.heap.size w w' := fun w => by rw [hP]; exact print_any n w h1 h2
  have ca : ∀ w, Calls Try.prog 13 #[.string P] w fun e w' => e = .returned (.tuple #[.int .i64 n, .int .i64 0]) ∧ w = w' := fun w => by
    have := parse_any P w (by omega); rw [hPd, Nm.parse_pr h1 h2] at this; exact this
  have cs : ∀ w, Calls Try.prog 15 #[.string (P ++ ⟨#[120]⟩ ++ s), .int .i64 0] w fun e w' => e = .returned (.tuple #[.int .i64 n, .int .i64 (P.size : Int), .int .i64 0]) ∧ w = w' := fun w => by
    have hsz : (P ++ ⟨#[120]⟩ ++ s : ByteArray).size ≤ 2305843009213693952 := by
      rw [← len_data, join_data P s _ hP]; simp only [List.length_append, List.length_cons, len_data, ← hPd]; omega
    have := scan_any (P ++ ⟨#[120]⟩ ++ s) 0 w hsz (by omega) (by omega)
    rw [join_data P s _ hP, Nm.scan_pr h1 h2, ← hPd, len_data] at this; exact this
  have hpe := Nm.parse_err (s := s.data.toList)
  have hpp := Nm.pr_parse (s := s.data.toList) (x := (Nm.parse s.data.toList).1)
  obtain ⟨x, hx⟩ : ∃ x, x = (Nm.parse s.data.toList).1 := ⟨_, rfl⟩
  obtain ⟨c, hc⟩ : ∃ c, c = (Nm.parse s.data.toList).2 := ⟨_, rfl⟩
  have cx : ∀ w, Calls Try.prog 13 #[.string s] w fun e w' => e = .returned (.tuple #[.int .i64 x, .int .i64 c]) ∧ w = w' := fun w => by
    rw [hx, hc]; exact parse_any s w (by omega)
  rw [← hx, ← hc] at hpe
  rw [← hx] at hpp
  have CP := Lib.hid cp
  have CA := Lib.hid ca
  have CS := Lib.hid cs
  have CX := Lib.hid cx
  clear cp ca cs cx hP hPd
  rcases (show c = 0 ∨ c ≠ 0 by omega) with hc0 | hc0
  · subst hc0
    obtain ⟨e1, e2, e3⟩ := hpp (by rw [hx, hc])
    have cy : ∀ w, Calls Try.prog 11 #[.int .i64 x] w fun e w' => e = .returned (.string s) ∧ Below w.heap.size w w' := fun w => by
      have := print_any x w e2 e3; rw [e1] at this; exact this
    have CY := Lib.hid cy
    clear cy hx hc hpp hpe e1 e2 e3
    go_enter Try.func5, Try.ntmps5
    go_wp2_with (go_at_call 8; refine (alive_any _).mono ?_; rintro e w0 ⟨rfl, hb0⟩)
    refine (CP.out _).mono ?_
    rintro e w1 ⟨rfl, hb1⟩
    go_wp2_with fail
    refine (CA.out _).mono ?_
    rintro e w' ⟨rfl, rfl⟩
    go_wp2_with fail
    refine (CX.out _).mono ?_
    rintro e w' ⟨rfl, rfl⟩
    go_wp2_with fail
    refine (CP.out _).mono ?_
    rintro e w2 ⟨rfl, hb2⟩
    go_wp2_with (go_at_call 15; refine (CS.out _).mono ?_; rintro e w' ⟨rfl, rfl⟩)
    refine (CY.out _).mono ?_
    rintro e w3 ⟨rfl, hb3⟩
    go_wp2_with fail
    refine (CP.out _).mono ?_
    rintro e w4 ⟨rfl, hb4⟩
    go_wp2
    go_ret
    exact ⟨rfl, (((hb0.trans (hb1.mono hb0.size)).trans (hb2.mono (Nat.le_trans hb0.size hb1.size))).trans (hb3.mono (Nat.le_trans hb0.size (Nat.le_trans hb1.size hb2.size)))).trans (hb4.mono (Nat.le_trans hb0.size (Nat.le_trans hb1.size (Nat.le_trans hb2.size hb3.size))))⟩
  · have hx0 : x = 0 := hpe hc0
    subst hx0
    have hcb : (c != 0) = true := by simpa using hc0
    clear hx hc hpp hpe hc0
    go_enter Try.func5, Try.ntmps5
    go_wp2_with (go_at_call 8; refine (alive_any _).mono ?_; rintro e w0 ⟨rfl, hb0⟩)
    refine (CP.out _).mono ?_
    rintro e w1 ⟨rfl, hb1⟩
    go_wp2_with fail
    refine (CA.out _).mono ?_
    rintro e w' ⟨rfl, rfl⟩
    go_wp2_with fail
    refine (CX.out _).mono ?_
    rintro e w' ⟨rfl, rfl⟩
    go_wp2_with fail
    refine (CP.out _).mono ?_
    rintro e w2 ⟨rfl, hb2⟩
    go_wp2_with (first | (go_at_call 15; refine (CS.out _).mono ?_; rintro e w' ⟨rfl, rfl⟩) | (go_at_call 11; refine (CP.out _).mono ?_; rintro e w3 ⟨rfl, hb3⟩))
    go_ret
    exact ⟨rfl, ((hb0.trans (hb1.mono hb0.size)).trans (hb2.mono (Nat.le_trans hb0.size hb1.size))).trans (hb3.mono (Nat.le_trans hb0.size (Nat.le_trans hb1.size hb2.size)))⟩

set_option maxHeartbeats 1000000 in
theorem numOrder_walk (n m : Int) (w : World) (h1 : -9223372036854775808 ≤ n) (h2 : n ≤ 9223372036854775807) (h3 : -9223372036854775808 ≤ m) (h4 : m ≤ 9223372036854775807) :
    Calls Try.prog 7 #[.int .i64 n, .int .i64 m] w fun e w' => e = .returned (.bool true) ∧ Below w.heap.size w w' := by
  obtain ⟨P, hP⟩ : ∃ P, P = bs (Nm.pr n) := ⟨_, rfl⟩
  obtain ⟨R, hR⟩ : ∃ R, R = bs (Nm.pr m) := ⟨_, rfl⟩
  have hPs : P.size ≤ 20 := by rw [hP, bs_size]; exact Nm.pr_len20 h1 h2
  have hP0 : 0 < P.size := by rw [hP, bs_size]; exact (Nm.pr_length n).1
  have hPd : P.data.toList = Nm.pr n := by rw [hP]; rfl
  have hRd : R.data.toList = Nm.pr m := by rw [hR]; rfl
  have hRs : R.size ≤ 20 := by rw [hR, bs_size]; exact Nm.pr_len20 h3 h4
  have hng : decide (P[0].toNat = 45) = decide (n < 0) := by rw [← neg_of P hP0, hPd, Nm.neg_pr]
  have cp : ∀ w, Calls Try.prog 11 #[.int .i64 n] w fun e w' => e = .returned (.string P) ∧ Below w.heap.size w w' := fun w => by rw [hP]; exact print_any n w h1 h2
  have cr : ∀ w, Calls Try.prog 11 #[.int .i64 m] w fun e w' => e = .returned (.string R) ∧ Below w.heap.size w w' := fun w => by rw [hR]; exact print_any m w h3 h4
  have hz0 : ((P.size : Int) == 0) = false := beq_eq_false_iff_ne.2 (by omega)
  have CP := Lib.hid cp
  have CR := Lib.hid cr
  clear cp cr hP hR
  rcases Int.lt_or_le n 0 with hn | hn
  · have h45 : ((P[0].toNat : Int) == 45) = true := by rw [decide_eq_true hn] at hng; simp at hng; simp; omega
    clear hng hPd hRd
    go_enter Try.func7, Try.ntmps7
    go_wp2_with (go_at_call 8; refine (alive_any _).mono ?_; rintro e w0 ⟨rfl, hb0⟩)
    refine (CP.out _).mono ?_
    rintro e w1 ⟨rfl, hb1⟩
    go_wp2_with fail
    refine (CR.out _).mono ?_
    rintro e w2 ⟨rfl, hb2⟩
    go_wp2
    go_ret
    exact ⟨rfl, (hb0.trans (hb1.mono hb0.size)).trans (hb2.mono (Nat.le_trans hb0.size hb1.size))⟩
  · have h45 : ((P[0].toNat : Int) == 45) = false := by rw [decide_eq_false (show ¬ n < 0 by omega)] at hng; simp at hng; simp; omega
    clear hng
    by_cases hnm : n ≤ m
    · have hord := pr_order hn hnm h4
      rw [← hPd, ← hRd, len_data, len_data, ← ByteArray.toList_eq, ← ByteArray.toList_eq] at hord
      clear hPd hRd
      rcases hord with ho | ⟨ho, hle⟩
      · go_enter Try.func7, Try.ntmps7
        go_wp2_with (go_at_call 8; refine (alive_any _).mono ?_; rintro e w0 ⟨rfl, hb0⟩)
        refine (CP.out _).mono ?_
        rintro e w1 ⟨rfl, hb1⟩
        go_wp2_with fail
        refine (CR.out _).mono ?_
        rintro e w2 ⟨rfl, hb2⟩
        go_wp2
        all_goals
          go_ret
          exact ⟨rfl, (hb0.trans (hb1.mono hb0.size)).trans (hb2.mono (Nat.le_trans hb0.size hb1.size))⟩
      · have hs1 : ((P.size : Int) == (R.size : Int)) = true := beq_iff_eq.2 (by omega)
        have hs2 : ¬ P.size < R.size := by omega
        clear ho
        go_enter Try.func7, Try.ntmps7
        go_wp2_with (go_at_call 8; refine (alive_any _).mono ?_; rintro e w0 ⟨rfl, hb0⟩)
        refine (CP.out _).mono ?_
        rintro e w1 ⟨rfl, hb1⟩
        go_wp2_with fail
        refine (CR.out _).mono ?_
        rintro e w2 ⟨rfl, hb2⟩
        go_wp2
        all_goals
          go_ret
          exact ⟨rfl, (hb0.trans (hb1.mono hb0.size)).trans (hb2.mono (Nat.le_trans hb0.size hb1.size))⟩
    · clear hPd hRd
      have hmn : m < n := by omega
      go_enter Try.func7, Try.ntmps7
      go_wp2_with (go_at_call 8; refine (alive_any _).mono ?_; rintro e w0 ⟨rfl, hb0⟩)
      refine (CP.out _).mono ?_
      rintro e w1 ⟨rfl, hb1⟩
      go_wp2_with fail
      refine (CR.out _).mono ?_
      rintro e w2 ⟨rfl, hb2⟩
      go_wp2
      all_goals
        go_ret
        exact ⟨rfl, (hb0.trans (hb1.mono hb0.size)).trans (hb2.mono (Nat.le_trans hb0.size hb1.size))⟩

theorem numParses_all (s : ByteArray) (p : Int) (w : World) (hs : s.size ≤ maxLen) (h1 : -9223372036854775808 ≤ p) (h2 : p ≤ 9223372036854775807) :
    Calls Try.prog 4 #[.string s, .int .i64 p] w fun e w' => e = .returned (.bool true) ∧ Below w.heap.size w w' := numParses_walk s p w h1 h2 hs
theorem numBack_all (n : Int) (s : ByteArray) (w : World) (h1 : -9223372036854775808 ≤ n) (h2 : n ≤ 9223372036854775807) (hs : s.size ≤ maxLen) :
    Calls Try.prog 5 #[.int .i64 n, .string s] w fun e w' => e = .returned (.bool true) ∧ Below w.heap.size w w' := by
  by_cases hl : s.size ≤ 300
  · exact numBack_walk n s w h1 h2 hl
  · exact numBack_long n s w (by omega) hs

end Go.Proofs.Ytoccleegdekngaa
