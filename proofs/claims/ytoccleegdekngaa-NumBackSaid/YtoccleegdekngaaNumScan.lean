/-
  num.Scan and the reference's: the number at a place of a text, the place behind it, or the error. Condition: the text is no longer than 2^61 bytes.
-/
import Derived.Test.YtoccleegdekngaaNumParse
import Derived.Test.YtoccleegdekngaaNumRParse
namespace Go.Proofs.Ytoccleegdekngaa
open Go.RowKit

theorem scan_out {l : List UInt8} {p : Int} (h : p < 0 ∨ (l.length : Int) < p) : Nm.scan l p = (0, p, 2) := by unfold Nm.scan; rw [if_pos h]
theorem scan_in {l : List UInt8} {p r : Nat} (h : p ≤ l.length) (hr : r = Nm.row (l.drop p)) :
    Nm.scan l p = if (Nm.parse ((l.drop p).take r)).2 ≠ 0 then (0, (p : Int), (Nm.parse ((l.drop p).take r)).2) else ((Nm.parse ((l.drop p).take r)).1, (p : Int) + r, 0) := by
  subst hr
  unfold Nm.scan; rw [if_neg (by omega)]; simp only [Int.toNat_natCast]

theorem extract_take (s : ByteArray) (a b : Nat) (_ : a ≤ b) : (s.extract a b).data.toList = (s.data.toList.drop a).take (b - a) := by
  rw [ByteArray.data_extract, Array.toList_extract]

theorem row_le (l : List UInt8) : Nm.row l ≤ l.length := by
  unfold Nm.row
  by_cases h : Nm.neg l = true
  · rw [if_pos h]
    have h1 := run_le l.tail
    cases l with
    | nil => simp [Nm.neg] at h
    | cons c l => simp at h1 ⊢; omega
  · rw [if_neg h]; exact run_le l

theorem scan_bounds (l : List UInt8) (p : Int) : (Nm.scan l p).1 = (Nm.scan l p).1 := rfl

set_option maxHeartbeats 1000000 in
theorem scan_neg (s : ByteArray) (p : Int) (w : World) (hs : s.size ≤ 2305843009213693952) (h : p < 0 ∨ (s.size : Int) < p) (hp : -9223372036854775808 ≤ p) (hp' : p ≤ 9223372036854775807) :
    Calls Try.prog 15 #[.string s, .int .i64 p] w fun e w' => e = .returned (.tuple #[.int .i64 (Nm.scan s.data.toList p).1, .int .i64 (Nm.scan s.data.toList p).2.1, .int .i64 (Nm.scan s.data.toList p).2.2]) ∧ w = w' := by
  have hsc := Lib.hid (scan_out (l := s.data.toList) (p := p) (by rw [len_data]; exact h))
  rcases h with h | h
  · go_enter Try.func15, Try.ntmps15
    go_wp2
    go_ret3
    rw [hsc.out]; exact ⟨rfl, rfl⟩
  · go_enter Try.func15, Try.ntmps15
    go_wp2
    go_ret3
    rw [hsc.out]; exact ⟨rfl, rfl⟩

set_option maxHeartbeats 1000000 in
theorem scan_core (s : ByteArray) (q from_ r : Nat) (w : World) (hs : s.size ≤ 2305843009213693952) (hq : q ≤ s.size) (hf : from_ ≤ s.size) (hqf : q ≤ from_) (hr : Hid (r = Nm.run (s.data.toList.drop from_))) (hrs : from_ + r ≤ s.size)
    (hrow : Hid (from_ + r - q = Nm.row (s.data.toList.drop q)))
    (hfrom : (q < s.size ∧ from_ = q + 1 ∧ ∃ h : q < s.size, ((s[q].toNat : Int) == 45) = true) ∨ (from_ = q ∧ (q = s.size ∨ ∃ h : q < s.size, ((s[q].toNat : Int) == 45) = false))) :
    Calls Try.prog 15 #[.string s, .int .i64 (q : Int)] w fun e w' => e = .returned (.tuple #[.int .i64 (Nm.scan s.data.toList q).1, .int .i64 (Nm.scan s.data.toList q).2.1, .int .i64 (Nm.scan s.data.toList q).2.2]) ∧ w = w' := by
  have hsc := Lib.hid (scan_in (l := s.data.toList) (p := q) (r := from_ + r - q) (by rw [len_data]; exact hq) hrow.out)
  have hx := Lib.hid (extract_take s q (from_ + r) (by omega))
  have hrun : ∀ p : Int, p = from_ → ∀ w, Calls Try.prog 19 #[.string s, .int .i64 p] w fun e w' => e = .returned (.int .i64 (r : Int)) ∧ w = w' := fun p hp w => by
    subst hp
    refine (run_any s from_ w (by omega) (by omega) (by omega)).mono fun e w' h => ?_
    · obtain ⟨rfl, rfl⟩ := h
      exact ⟨ret_i (by rw [hr.out, Int.toNat_natCast]), rfl⟩
  have HRUN := Lib.hid hrun
  clear hrun
  obtain ⟨x, hxx⟩ : ∃ x, x = s.extract q (from_ + r) := ⟨_, rfl⟩
  have hxs : x.size ≤ 4611686018427387904 := by rw [hxx, ByteArray.size_extract]; omega
  have hpr := Nm.parse_range x.data.toList
  obtain ⟨v, hv⟩ : ∃ v, v = (Nm.parse x.data.toList).1 := ⟨_, rfl⟩
  obtain ⟨c, hc⟩ : ∃ c, c = (Nm.parse x.data.toList).2 := ⟨_, rfl⟩
  have hpar : ∀ w, Calls Try.prog 13 #[.string x] w fun e w' => e = .returned (.tuple #[.int .i64 v, .int .i64 c]) ∧ w = w' := fun w => by
    rw [hv, hc]; exact parse_any x w hxs
  rw [hxx] at hpar
  have HPAR := Lib.hid hpar
  rw [hxx, hx.out] at hv hc
  clear hpar hxx hpr hxs
  have HV := Lib.hid hv
  have HC := Lib.hid hc
  have hc3 : c = 0 ∨ c ≠ 0 := by omega
  clear hv hc x hx
  rcases hfrom with ⟨hlt, rfl, _, h45⟩ | ⟨rfl, rfl | ⟨hlt, h45⟩⟩
  · skip
    rcases hc3 with rfl | hc0
    · go_enter Try.func15, Try.ntmps15
      go_wp2_with (first | (go_at_call 19; refine (HRUN.out _ (by omega) _).mono ?_; rintro e w' ⟨rfl, rfl⟩) | (go_at_call 13; refine (HPAR.out _).mono ?_; rintro e w' ⟨rfl, rfl⟩))
      go_ret3
      rw [hsc.out, if_neg (by rw [← HC.out]; simp), ← HV.out]
      exact ⟨ret_iii rfl (by dsimp only; omega) rfl, rfl⟩
    · have hcb : (c != 0) = true := by simpa using hc0
      go_enter Try.func15, Try.ntmps15
      go_wp2_with (first | (go_at_call 19; refine (HRUN.out _ (by omega) _).mono ?_; rintro e w' ⟨rfl, rfl⟩) | (go_at_call 13; refine (HPAR.out _).mono ?_; rintro e w' ⟨rfl, rfl⟩))
      go_ret3
      rw [hsc.out, if_pos (by rw [← HC.out]; exact hc0), ← HC.out]
      exact ⟨rfl, rfl⟩
  · skip
    rcases hc3 with rfl | hc0
    · go_enter Try.func15, Try.ntmps15
      go_wp2_with (first | (go_at_call 19; refine (HRUN.out _ (by omega) _).mono ?_; rintro e w' ⟨rfl, rfl⟩) | (go_at_call 13; refine (HPAR.out _).mono ?_; rintro e w' ⟨rfl, rfl⟩))
      go_ret3
      rw [hsc.out, if_neg (by rw [← HC.out]; simp), ← HV.out]
      exact ⟨ret_iii rfl (by dsimp only; omega) rfl, rfl⟩
    · have hcb : (c != 0) = true := by simpa using hc0
      go_enter Try.func15, Try.ntmps15
      go_wp2_with (first | (go_at_call 19; refine (HRUN.out _ (by omega) _).mono ?_; rintro e w' ⟨rfl, rfl⟩) | (go_at_call 13; refine (HPAR.out _).mono ?_; rintro e w' ⟨rfl, rfl⟩))
      go_ret3
      rw [hsc.out, if_pos (by rw [← HC.out]; exact hc0), ← HC.out]
      exact ⟨rfl, rfl⟩
  · skip
    rcases hc3 with rfl | hc0
    · go_enter Try.func15, Try.ntmps15
      go_wp2_with (first | (go_at_call 19; refine (HRUN.out _ (by omega) _).mono ?_; rintro e w' ⟨rfl, rfl⟩) | (go_at_call 13; refine (HPAR.out _).mono ?_; rintro e w' ⟨rfl, rfl⟩))
      go_ret3
      rw [hsc.out, if_neg (by rw [← HC.out]; simp), ← HV.out]
      exact ⟨ret_iii rfl (by dsimp only; omega) rfl, rfl⟩
    · have hcb : (c != 0) = true := by simpa using hc0
      go_enter Try.func15, Try.ntmps15
      go_wp2_with (first | (go_at_call 19; refine (HRUN.out _ (by omega) _).mono ?_; rintro e w' ⟨rfl, rfl⟩) | (go_at_call 13; refine (HPAR.out _).mono ?_; rintro e w' ⟨rfl, rfl⟩))
      go_ret3
      rw [hsc.out, if_pos (by rw [← HC.out]; exact hc0), ← HC.out]
      exact ⟨rfl, rfl⟩

/-- num.Scan: the number at a place of a text, the place behind it, or the error -/
theorem scan_any (s : ByteArray) (p : Int) (w : World) (hs : s.size ≤ 2305843009213693952) (hp : -9223372036854775808 ≤ p) (hp' : p ≤ 9223372036854775807) :
    Calls Try.prog 15 #[.string s, .int .i64 p] w fun e w' => e = .returned (.tuple #[.int .i64 (Nm.scan s.data.toList p).1, .int .i64 (Nm.scan s.data.toList p).2.1, .int .i64 (Nm.scan s.data.toList p).2.2]) ∧ w = w' := by
  by_cases h : p < 0 ∨ (s.size : Int) < p
  · exact scan_neg s p w hs h hp hp'
  · obtain ⟨q, rfl⟩ := Int.eq_ofNat_of_zero_le (show 0 ≤ p by omega)
    have hq : q ≤ s.size := by omega
    have hrow : Nm.row (s.data.toList.drop q) = if Nm.neg (s.data.toList.drop q) then 1 + Nm.run (s.data.toList.drop (q + 1)) else Nm.run (s.data.toList.drop q) := by
      unfold Nm.row; rw [List.tail_drop]
    by_cases hlt : q < s.size
    · have hn : Nm.neg (s.data.toList.drop q) = decide (s[q].toNat = 45) := by
        rw [drop_cons s q hlt]; unfold Nm.neg
        rw [Bool.eq_iff_iff]
        simp only [List.head?_cons, beq_iff_eq, Option.some.injEq, decide_eq_true_eq]
        exact ⟨fun e => by rw [e]; rfl, fun e => UInt8.toNat_inj.1 e⟩
      by_cases h45 : s[q].toNat = 45
      · have hr := run_le (s.data.toList.drop (q + 1))
        rw [List.length_drop, len_data] at hr
        refine scan_core s q (q + 1) _ w hs hq (by omega) (by omega) rfl (by omega) ?_ (.inl ⟨hlt, rfl, hlt, by simp; omega⟩)
        unfold Hid; rw [hrow, hn, decide_eq_true h45, if_pos rfl]; omega
      · have hr := run_le (s.data.toList.drop q)
        rw [List.length_drop, len_data] at hr
        refine scan_core s q q _ w hs hq hq (Nat.le_refl _) rfl (by omega) ?_ (.inr ⟨rfl, .inr ⟨hlt, by simp; omega⟩⟩)
        unfold Hid; rw [hrow, hn, decide_eq_false h45, if_neg (by simp)]; omega
    · have hn : s.data.toList.drop q = [] := List.drop_eq_nil_of_le (by rw [len_data]; omega)
      refine scan_core s q q _ w hs hq hq (Nat.le_refl _) rfl (by rw [hn]; simp [Nm.run]; omega) ?_ (.inr ⟨rfl, .inl (by omega)⟩)
      unfold Hid; rw [hn]; simp [Nm.row, Nm.neg, Nm.run]

set_option maxHeartbeats 1000000 in
theorem rscan_neg (s : ByteArray) (p : Int) (w : World) (hs : s.size ≤ 2305843009213693952) (h : p < 0 ∨ (s.size : Int) < p) (hp : -9223372036854775808 ≤ p) (hp' : p ≤ 9223372036854775807) :
    Calls Try.prog 16 #[.string s, .int .i64 p] w fun e w' => e = .returned (.tuple #[.int .i64 (Nm.scan s.data.toList p).1, .int .i64 (Nm.scan s.data.toList p).2.1, .int .i64 (Nm.scan s.data.toList p).2.2]) ∧ w = w' := by
  have hsc := Lib.hid (scan_out (l := s.data.toList) (p := p) (by rw [len_data]; exact h))
  rcases h with h | h
  · go_enter Try.func16, Try.ntmps16
    go_wp2
    go_ret3
    rw [hsc.out]; exact ⟨rfl, rfl⟩
  · go_enter Try.func16, Try.ntmps16
    go_wp2
    go_ret3
    rw [hsc.out]; exact ⟨rfl, rfl⟩

/-- after k bytes of the row -/
def RS1 (s : ByteArray) (q : Nat) (i : Value) : Prop := ∃ k : Nat, q ≤ k ∧ k ≤ s.size ∧ i = .int .i64 k ∧
  Hid (Nm.row (s.data.toList.drop q) = (k - q) + if k = q then Nm.row (s.data.toList.drop q) else Nm.run (s.data.toList.drop k))

theorem row_at (s : ByteArray) (q : Nat) (h : q < s.size) : Nm.row (s.data.toList.drop q) = if s[q].toNat = 45 then 1 + Nm.run (s.data.toList.drop (q + 1)) else Nm.run (s.data.toList.drop q) := by
  have hn : Nm.neg (s.data.toList.drop q) = decide (s[q].toNat = 45) := by
    rw [drop_cons s q h]; unfold Nm.neg
    rw [Bool.eq_iff_iff]
    simp only [List.head?_cons, beq_iff_eq, Option.some.injEq, decide_eq_true_eq]
    exact ⟨fun e => by rw [e]; rfl, fun e => UInt8.toNat_inj.1 e⟩
  unfold Nm.row
  rw [hn, List.tail_drop]
  by_cases h45 : s[q].toNat = 45 <;> simp [h45]

theorem RS1.dig {s : ByteArray} {q k : Nat} (hk : k < s.size) (hd : Nm.dig s[k] = true)
    (h : Nm.row (s.data.toList.drop q) = (k - q) + if k = q then Nm.row (s.data.toList.drop q) else Nm.run (s.data.toList.drop k)) (hq : q ≤ k) :
    Nm.row (s.data.toList.drop q) = (k + 1 - q) + Nm.run (s.data.toList.drop (k + 1)) := by
  have hr := Nm.dig_range hd
  by_cases e : k = q
  · subst e
    rw [row_at s k hk, if_neg (by omega), run_at s k hk, if_pos hd]; omega
  · rw [h, if_neg e, run_at s k hk, if_pos hd]; omega
theorem RS1.minus {s : ByteArray} {k : Nat} (hk : k < s.size) (h45 : s[k].toNat = 45) : Nm.row (s.data.toList.drop k) = (k + 1 - k) + Nm.run (s.data.toList.drop (k + 1)) := by
  rw [row_at s k hk, if_pos h45]; omega
theorem RS1.stop {s : ByteArray} {q k : Nat} (hk : k < s.size) (hd : Nm.dig s[k] = false) (hm : k = q → s[k].toNat ≠ 45)
    (h : Nm.row (s.data.toList.drop q) = (k - q) + if k = q then Nm.row (s.data.toList.drop q) else Nm.run (s.data.toList.drop k)) : Nm.row (s.data.toList.drop q) = k - q := by
  by_cases e : k = q
  · subst e
    rw [row_at s k hk, if_neg (hm rfl), run_at s k hk, hd]; simp
  · rw [h, if_neg e, run_at s k hk, hd]; simp
theorem RS1.fin {s : ByteArray} {q k : Nat} (hk : s.size ≤ k)
    (h : Nm.row (s.data.toList.drop q) = (k - q) + if k = q then Nm.row (s.data.toList.drop q) else Nm.run (s.data.toList.drop k)) : Nm.row (s.data.toList.drop q) = k - q := by
  by_cases e : k = q
  · subst e
    rw [List.drop_eq_nil_of_le (by rw [len_data]; exact hk)]; simp [Nm.row, Nm.neg, Nm.run]
  · rw [h, if_neg e, run_end s k hk]; rfl

set_option maxHeartbeats 2000000 in
theorem rscan_core (s : ByteArray) (q : Nat) (w : World) (hs : s.size ≤ 2305843009213693952) (hq : q ≤ s.size) :
    Calls Try.prog 16 #[.string s, .int .i64 (q : Int)] w fun e w' => e = .returned (.tuple #[.int .i64 (Nm.scan s.data.toList q).1, .int .i64 (Nm.scan s.data.toList q).2.1, .int .i64 (Nm.scan s.data.toList q).2.2]) ∧ w = w' := by
  go_enter Try.func16, Try.ntmps16
  go_wp2
  go_loop [7] (RS1 s q) (fun i => s.size - (intOf i).toNat)
  case atStart => exact ⟨q, Nat.le_refl _, hq, rfl, by unfold Hid; simp⟩
  case round =>
    obtain ⟨k, hqk, hk, rfl, HR⟩ := hrel
    have fin : Nm.row (s.data.toList.drop q) = k - q → Hid (Nm.scan s.data.toList q = if (Nm.parse (s.extract q k).data.toList).2 ≠ 0 then (0, (q : Int), (Nm.parse (s.extract q k).data.toList).2) else ((Nm.parse (s.extract q k).data.toList).1, (k : Int), 0)) := fun e => by
      unfold Hid
      rw [scan_in (l := s.data.toList) (p := q) (r := k - q) (by rw [len_data]; exact hq) e.symm, extract_take s q k hqk, show (q : Int) + ((k - q : Nat) : Int) = k from by omega]
    have FIN := Lib.hid fin
    clear fin
    by_cases hlt : k < s.size
    · by_cases hd : 48 ≤ (s[k].toNat : Int) ∧ (s[k].toNat : Int) ≤ 57
      · obtain ⟨h48, h57⟩ := hd
        go_wp2
        go_round
        case rel =>
          refine ⟨k + 1, by omega, by omega, by go_num, ?_⟩
          unfold Hid
          rw [if_neg (by omega)]
          exact RS1.dig hlt (by unfold Nm.dig; simp; omega) HR.out hqk
        case measure => simp [intOf]; omega
      · by_cases hm : k = q ∧ s[k].toNat = 45
        · obtain ⟨rfl, h45⟩ := hm
          have h45b : ((s[k].toNat : Int) == 45) = true := by simp; omega
          have h48 : ¬ 48 ≤ (s[k].toNat : Int) := by omega
          have H45 := Lib.hid h45
          clear hd h45
          go_wp2
          go_round
          case rel =>
            refine ⟨k + 1, by omega, by omega, by go_num, ?_⟩
            unfold Hid
            rw [if_neg (by omega)]
            exact RS1.minus hlt H45.out
          case measure => simp [intOf]; omega
        · have hst := Lib.hid (FIN.out (RS1.stop hlt (by unfold Nm.dig; simp; omega) (fun e h => hm ⟨e, h⟩) HR.out))
          clear FIN HR
          have hxs : (s.extract q k).size ≤ 4611686018427387904 := by rw [ByteArray.size_extract]; omega
          obtain ⟨v, hv⟩ : ∃ v, v = (Nm.parse (s.extract q k).data.toList).1 := ⟨_, rfl⟩
          obtain ⟨c, hc⟩ : ∃ c, c = (Nm.parse (s.extract q k).data.toList).2 := ⟨_, rfl⟩
          have HPAR : Hid (∀ y, y = s.extract q k → ∀ w, Calls Try.prog 14 #[.string y] w fun e w' => e = .returned (.tuple #[.int .i64 v, .int .i64 c]) ∧ w = w') := fun y hy w => by
            rw [hv, hc]; subst hy; exact rparse_any _ w hxs
          rw [← hv, ← hc] at hst
          have HST := Lib.hid hst
          clear hxs hv hc hst
          by_cases hm1 : k = q
          · subst hm1
            have h45 : ((s[k].toNat : Int) == 45) = false := by simp; intro e; exact hm ⟨rfl, by omega⟩
            clear hm
            by_cases h48 : 48 ≤ (s[k].toNat : Int)
            · have h57 : ¬ (s[k].toNat : Int) ≤ 57 := fun h => hd ⟨h48, h⟩
              clear hd
              rcases (show c = 0 ∨ c ≠ 0 by omega) with rfl | hc0
              · go_wp2_with (go_at_call 14; refine (HPAR.out _ (by first | rfl | simp) _).mono ?_; rintro e w' ⟨rfl, rfl⟩)
                all_goals
                  go_ret3
                  rw [HST.out.out, if_neg (by simp)]
                  exact ⟨rfl, rfl⟩
              · have hcb : (c != 0) = true := by simpa using hc0
                go_wp2_with (go_at_call 14; refine (HPAR.out _ (by first | rfl | simp) _).mono ?_; rintro e w' ⟨rfl, rfl⟩)
                all_goals
                  go_ret3
                  rw [HST.out.out, if_pos hc0]
                  exact ⟨rfl, rfl⟩
            · clear hd
              rcases (show c = 0 ∨ c ≠ 0 by omega) with rfl | hc0
              · go_wp2_with (go_at_call 14; refine (HPAR.out _ (by first | rfl | simp) _).mono ?_; rintro e w' ⟨rfl, rfl⟩)
                all_goals
                  go_ret3
                  rw [HST.out.out, if_neg (by simp)]
                  exact ⟨rfl, rfl⟩
              · have hcb : (c != 0) = true := by simpa using hc0
                go_wp2_with (go_at_call 14; refine (HPAR.out _ (by first | rfl | simp) _).mono ?_; rintro e w' ⟨rfl, rfl⟩)
                all_goals
                  go_ret3
                  rw [HST.out.out, if_pos hc0]
                  exact ⟨rfl, rfl⟩
          · have hne : ((k : Int) == (q : Int)) = false := by simp; omega
            clear hm
            by_cases h48 : 48 ≤ (s[k].toNat : Int)
            · have h57 : ¬ (s[k].toNat : Int) ≤ 57 := fun h => hd ⟨h48, h⟩
              clear hd
              rcases (show c = 0 ∨ c ≠ 0 by omega) with rfl | hc0
              · go_wp2_with (go_at_call 14; refine (HPAR.out _ (by first | rfl | simp) _).mono ?_; rintro e w' ⟨rfl, rfl⟩)
                all_goals
                  go_ret3
                  rw [HST.out.out, if_neg (by simp)]
                  exact ⟨rfl, rfl⟩
              · have hcb : (c != 0) = true := by simpa using hc0
                go_wp2_with (go_at_call 14; refine (HPAR.out _ (by first | rfl | simp) _).mono ?_; rintro e w' ⟨rfl, rfl⟩)
                all_goals
                  go_ret3
                  rw [HST.out.out, if_pos hc0]
                  exact ⟨rfl, rfl⟩
            · clear hd
              rcases (show c = 0 ∨ c ≠ 0 by omega) with rfl | hc0
              · go_wp2_with (go_at_call 14; refine (HPAR.out _ (by first | rfl | simp) _).mono ?_; rintro e w' ⟨rfl, rfl⟩)
                all_goals
                  go_ret3
                  rw [HST.out.out, if_neg (by simp)]
                  exact ⟨rfl, rfl⟩
              · have hcb : (c != 0) = true := by simpa using hc0
                go_wp2_with (go_at_call 14; refine (HPAR.out _ (by first | rfl | simp) _).mono ?_; rintro e w' ⟨rfl, rfl⟩)
                all_goals
                  go_ret3
                  rw [HST.out.out, if_pos hc0]
                  exact ⟨rfl, rfl⟩
    · have hst := Lib.hid (FIN.out (RS1.fin (by omega) HR.out))
      clear FIN HR
      have hxs : (s.extract q k).size ≤ 4611686018427387904 := by rw [ByteArray.size_extract]; omega
      obtain ⟨v, hv⟩ : ∃ v, v = (Nm.parse (s.extract q k).data.toList).1 := ⟨_, rfl⟩
      obtain ⟨c, hc⟩ : ∃ c, c = (Nm.parse (s.extract q k).data.toList).2 := ⟨_, rfl⟩
      have HPAR : Hid (∀ y, y = s.extract q k → ∀ w, Calls Try.prog 14 #[.string y] w fun e w' => e = .returned (.tuple #[.int .i64 v, .int .i64 c]) ∧ w = w') := fun y hy w => by
        rw [hv, hc]; subst hy; exact rparse_any _ w hxs
      rw [← hv, ← hc] at hst
      have HST := Lib.hid hst
      clear hxs hv hc hst
      rcases (show c = 0 ∨ c ≠ 0 by omega) with rfl | hc0
      · go_wp2_with (go_at_call 14; refine (HPAR.out _ (by first | rfl | simp) _).mono ?_; rintro e w' ⟨rfl, rfl⟩)
        all_goals
          go_ret3
          rw [HST.out.out, if_neg (by simp)]
          exact ⟨rfl, rfl⟩
      · have hcb : (c != 0) = true := by simpa using hc0
        go_wp2_with (go_at_call 14; refine (HPAR.out _ (by first | rfl | simp) _).mono ?_; rintro e w' ⟨rfl, rfl⟩)
        all_goals
          go_ret3
          rw [HST.out.out, if_pos hc0]
          exact ⟨rfl, rfl⟩

/-- the reference's Scan -/
theorem rscan_any (s : ByteArray) (p : Int) (w : World) (hs : s.size ≤ 2305843009213693952) (hp : -9223372036854775808 ≤ p) (hp' : p ≤ 9223372036854775807) :
    Calls Try.prog 16 #[.string s, .int .i64 p] w fun e w' => e = .returned (.tuple #[.int .i64 (Nm.scan s.data.toList p).1, .int .i64 (Nm.scan s.data.toList p).2.1, .int .i64 (Nm.scan s.data.toList p).2.2]) ∧ w = w' := by
  by_cases h : p < 0 ∨ (s.size : Int) < p
  · exact rscan_neg s p w hs h hp hp'
  · obtain ⟨q, rfl⟩ := Int.eq_ofNat_of_zero_le (show 0 ≤ p by omega)
    exact rscan_core s q w hs (by omega)

end Go.Proofs.Ytoccleegdekngaa
